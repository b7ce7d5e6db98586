/- The document's example is true. No condition. -/
import Derived.Test.YtcpnjlnphjnhnaaMgMk
namespace Go.Proofs.Ytcpnjlnphjnhnaa
open Go.RowKit
def ka : ByteArray := ⟨#[97]⟩
def kb : ByteArray := ⟨#[98]⟩
def kc : ByteArray := ⟨#[99]⟩
def v1 : ByteArray := ⟨#[49]⟩
def v2 : ByteArray := ⟨#[50]⟩
theorem lt_ab : sLt ka kb = true := by decide +kernel
theorem lt_ac : sLt ka kc = true := by decide +kernel
theorem lt_bc : sLt kb kc = true := by decide +kernel
def la : List En := [⟨ka, v1, false⟩, ⟨kc, v1, false⟩]
def lb : List En := [⟨ka, v2, false⟩, ⟨kb, ⟨#[]⟩, true⟩]
def lm : List En := [⟨ka, v1, false⟩, ⟨kb, ⟨#[]⟩, true⟩, ⟨kc, v1, false⟩]
theorem la_ris : Ris la := by simp [Ris, la, lt_ac]
theorem lb_ris : Ris lb := by simp [Ris, lb, lt_ab]
theorem lm_ris : Ris lm := by simp [Ris, lm, lt_ab, lt_ac, lt_bc]
theorem lm_mg : Mg [(la, 0), (lb, 0)] lm 0 := by
  have n1 := sLt_irrefl ka
  have e1 : kc ≠ kb := (sLt_ne lt_bc).symm
  refine .step rfl (x := ⟨ka, v1, false⟩) (by simp [bestOf, better, la, lb, n1]) ?_
  have h1 : [(la, (0 : Int)), (lb, 0)].map (dropK (En.mk ka v1 false).key) = [([⟨kc, v1, false⟩], 0), ([⟨kb, ⟨#[]⟩, true⟩], 0)] := by simp [dropK, la, lb]
  rw [h1]
  refine .step rfl (x := ⟨kb, ⟨#[]⟩, true⟩) (by simp [bestOf, better, lt_bc]) ?_
  have h2 : [([(⟨kc, v1, false⟩ : En)], (0 : Int)), ([⟨kb, ⟨#[]⟩, true⟩], 0)].map (dropK (En.mk kb ⟨#[]⟩ true).key) = [([⟨kc, v1, false⟩], 0), ([], 0)] := by simp [dropK, e1]
  rw [h2]
  refine .step rfl (x := ⟨kc, v1, false⟩) (by simp [bestOf, better]) ?_
  have h3 : [([(⟨kc, v1, false⟩ : En)], (0 : Int)), ([], 0)].map (dropK (En.mk kc v1 false).key) = [([], 0), ([], 0)] := by simp [dropK]
  rw [h3]
  exact .fin rfl rfl
theorem lm_live : live lm = la := rfl
theorem RdE.at_new (w : World) (l : List En) (arr : Array Value) (h : arr = (ens l).flatten.toArray) : RdE (w.alloc (.cells arr 32)) (some ⟨w.heap.size, 0, none⟩) l := by
  subst h
  exact fun j v hv => ⟨_, rfl, by rw [add_plain]; exact (Blk.new w (ens l).flatten 32).cell j hv⟩
set_option maxHeartbeats 2000000 in
set_option maxRecDepth 100000 in
theorem awake_any (w : World) : Calls Try.prog 8 #[] w fun e w' => e = .returned (.bool true) ∧ Fr (fun _ => False) w w' := by
  have hA := RdE.at_new w la #[.string ka, .string v1, .bool false, .string kc, .string v1, .bool false] rfl
  have g1 := (Fr.refl (fun _ => False) w).alloc (.cells #[.string ka, .string v1, .bool false, .string kc, .string v1, .bool false] 32)
  unfold ka v1 kc at hA g1
  go_enter Try.func8, Try.ntmps8
  go_wp2_with fail
  generalize w.alloc (.cells #[.string ⟨#[97]⟩, .string ⟨#[49]⟩, .bool false, .string ⟨#[99]⟩, .string ⟨#[49]⟩, .bool false] 32) = w1 at hA g1 ⊢
  refine (overL_any (l := la) hA (by simp [la])).mono ?_
  rw [told_none la_ris]
  rintro en w2 ⟨d1, rfl, hd1, hc1, hf1, hn1⟩
  have hB := RdE.at_new w2 lb #[.string ka, .string v2, .bool false, .string kb, .string ⟨#[]⟩, .bool true] rfl
  have g3 := (Fr.refl (fun _ => False) w2).alloc (.cells #[.string ka, .string v2, .bool false, .string kb, .string ⟨#[]⟩, .bool true] 32)
  have hn1' : ∀ k, d1.foot k → w.heap.size ≤ k ∧ k < w2.heap.size := fun k hk => ⟨by rcases hn1 k hk with h | h; have := g1.size; omega; exact h.elim, hc1.foot_lt k hk⟩
  unfold ka v2 kb at hB g3
  clear hA hn1
  go_wp2_with fail
  generalize w2.alloc (.cells #[.string ⟨#[97]⟩, .string ⟨#[50]⟩, .bool false, .string ⟨#[98]⟩, .string ⟨#[]⟩, .bool true] 32) = w3 at hB g3 ⊢
  have hc13 := hc1.new hd1 g3
  refine (overL_any (l := lb) hB (by simp [lb])).mono ?_
  rw [told_none lb_ris]
  rintro en w4 ⟨d2, rfl, hd2, hc2, hf2, hn2⟩
  have hc14 := hc13.new hd1 hf2
  have f4 : Fr (fun _ => False) w w4 := ((g1.trans hf1 (fun _ _ h => h)).trans g3 (fun _ _ h => h)).trans hf2 (fun _ _ h => h)
  have hdj : ∀ k, d1.foot k → ¬ d2.foot k := fun k h1 h2 => by
    have := (hn1' k h1).2
    have := g3.size
    rcases hn2 k h2 with h | h
    · omega
    · exact h
  have hlo : ∀ k, d1.foot k ∨ d2.foot k → w.heap.size ≤ k := by
    rintro k (h | h)
    · exact (hn1' k h).1
    · rcases hn2 k h with h | h
      · have := g1.size; have := hf1.size; have := g3.size; omega
      · exact h.elim
  clear hc1 hc13 hn1' hn2 hf1 hf2 g1 g3 hB
  have hC : Rd (w4.alloc (.cells #[.pointer (some ⟨d1.cb, 0, none⟩), .pointer (some ⟨d2.cb, 0, none⟩)] 29)) (some ⟨w4.heap.size, 0, none⟩) ([some d1, some d2].map ptrC) :=
    fun j v hv => ⟨_, rfl, by rw [add_plain]; exact (Blk.new w4 [.pointer (some ⟨d1.cb, 0, none⟩), .pointer (some ⟨d2.cb, 0, none⟩)] 29).cell j hv⟩
  have g5 := (Fr.refl (fun _ => False) w4).alloc (.cells #[.pointer (some ⟨d1.cb, 0, none⟩), .pointer (some ⟨d2.cb, 0, none⟩)] 29)
  have H1 := hc14.new hd1 g5
  have H2 := hc2.new hd2 g5
  have f5 := f4.trans g5 (fun _ _ h => h)
  have hM := merge_any (cp := 2) (cs := [some d1, some d2]) (rs := [(la, 0), (lb, 0)]) hC (fun d hd => by
    simp only [List.mem_cons, Option.some.injEq, List.not_mem_nil, or_false] at hd
    rcases hd with rfl | rfl
    · exact hd1
    · exact hd2) (fun i j c c' hi hj hij k h1 h2 => by
    match i, j, hi, hj, hij with
    | 0, 0, _, _, hij => exact hij rfl
    | 0, 1, hi, hj, _ =>
      simp at hi hj; subst hi; subst hj
      exact hdj k h1 h2
    | 1, 0, hi, hj, _ =>
      simp at hi hj; subst hi; subst hj
      exact hdj k h2 h1
    | 1, 1, _, _, hij => exact hij rfl
    | i + 2, _, hi, _, _ => simp at hi
    | _, j + 2, _, hj, _ => simp at hj) rfl (fun i c r hi hr => by
    match i, hi, hr with
    | 0, hi, hr =>
      simp at hi hr; subst hi; subst hr
      exact ⟨false, trivial, H1⟩
    | 1, hi, hr =>
      simp at hi hr; subst hi; subst hr
      exact ⟨false, trivial, H2⟩
    | i + 2, hi, _ => simp at hi) (by simp) lm_mg
  rw [told_none lm_ris] at hM
  have HM := Lib.hid hM
  have Hf := Lib.hid (And.intro f5 hlo)
  clear hM hC g5 H1 H2 f5 f4 hlo hdj hc14 hc2
  go_wp2_with fail
  refine HM.out.mono ?_
  rintro en w6 ⟨d3, rfl, hd3, hc3, hf3, hn3⟩
  have hL := live_any hd3 hc3
  rw [lm_live, told_none la_ris] at hL
  obtain ⟨f5, hlo⟩ := Hf.out
  have f6 := f5.trans hf3 (fun _ _ h => h)
  have hlo3 : ∀ k, d3.foot k → w.heap.size ≤ k := fun k hk => by
    rcases hn3 k hk with h | ⟨c, hc, h⟩
    · have := f5.size; omega
    · simp only [List.mem_cons, List.not_mem_nil, or_false] at hc
      rcases hc with rfl | rfl
      · exact hlo k (.inl h)
      · exact hlo k (.inr h)
  have HL := Lib.hid hL
  have H6 := Lib.hid (And.intro f6 hlo3)
  clear HM Hf hL f5 hlo hf3 hn3 hc3 f6 hlo3
  go_wp2_with fail
  refine HL.out.mono ?_
  rintro en w7 ⟨d4, rfl, hd4, hc4, hf4, hn4⟩
  obtain ⟨f6, hlo3⟩ := H6.out
  have f7 := f6.trans hf4 (fun _ _ h => h)
  have hlo4 : ∀ k, d4.foot k → w.heap.size ≤ k := fun k hk => by
    rcases hn4 k hk with h | h
    · have := f6.size; omega
    · exact hlo3 k h
  have hA := RdE.at_new w7 la #[.string ka, .string v1, .bool false, .string kc, .string v1, .bool false] rfl
  have g8 := (Fr.refl (fun _ => False) w7).alloc (.cells #[.string ka, .string v1, .bool false, .string kc, .string v1, .bool false] 32)
  have hI := is_any (cp := 2) hd4 (hc4.new hd4 g8) hA (fun ad e h => by injection e with e; subst e; have := hc4.foot_lt _ h; simp at this) (by simp [la])
  have HI := Lib.hid (And.intro hI (And.intro (f7.trans g8 (fun _ _ h => h)) hlo4))
  unfold ka v1 kc at HI
  clear HL H6 f6 hlo3 f7 hlo4 hA g8 hI hf4 hn4 hc4
  go_wp2_with fail
  refine HI.out.1.mono ?_
  rintro en w9 ⟨rfl, hf9⟩
  have hfin : Fr (fun _ => False) w w9 := HI.out.2.1.trans hf9 (fun i hi h => by have := HI.out.2.2 i h; omega)
  clear HI hf9
  go_wp2
  go_ret
  exact ⟨rfl, hfin⟩
end Go.Proofs.Ytcpnjlnphjnhnaa

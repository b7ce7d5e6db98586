/- Cursors that are merged: the cursor is made. Conditions: those of the lemmas. -/
import Derived.Test.YtcpnjlnphjnhnaaMgW
namespace Go.Proofs.Ytcpnjlnphjnhnaa
open Go.RowKit
theorem Sts.lt {cs : List (Option CD)} {rs : List Rw} {W : World} {K : Nat → Bool → Prop} (h : Sts cs rs W K) (hlen : rs.length = cs.length) : ∀ c ∈ cs, ∀ k, ofoot c k → k < W.heap.size := by
  intro c hc k hk
  obtain ⟨i, hi⟩ := List.getElem?_of_mem hc
  have hil := (List.getElem?_eq_some_iff.1 hi).1
  obtain ⟨pk, _, ho⟩ := h i c _ hi (List.getElem?_eq_getElem (show i < rs.length by omega))
  cases c with
  | none => exact hk.elim
  | some d => exact Cst.foot_lt ho k hk
theorem mg_src {ab cb : Nat} {v : Value} {cs : List (Option CD)} (hs : MgS ab v cs) (h2 : ¬ mgF ab v cs cb) : SrcOk ⟨cb, .func (.func 28) #[] #[.pointer (some ⟨ab, 0, none⟩)], mgF ab v cs, MgI ab v cs⟩ :=
  ⟨fun hI hf hS => hI.fr hs hf hS, h2, .inr ⟨28, _, rfl, enters Try.func28 (by kernel_rfl) rfl, fun W x l e hI => (mg_any hs hI).mono (by
    rintro en W' ⟨hf, ⟨h, _⟩ | ⟨y, l0, h, rfl, hI'⟩⟩
    · cases h
    · injection h with h1 h2
      subst h1
      subst h2
      exact ⟨rfl, hI', hf⟩), fun W e hI => (mg_any hs hI).mono (by
    rintro en W' ⟨hf, ⟨_, rfl⟩ | ⟨y, l0, h, _⟩⟩
    · exact ⟨rfl, hf⟩
    · cases h)⟩⟩
theorem infoPtr : (Try.prog.info? 29).map (fun i => (i.zero, i.size, i.bytes)) = some (some (.pointer none), 1, 8) := by kernel_rfl
theorem ptrC_one (cs : List (Option CD)) : ∀ u ∈ ((cs.map ptrC).map fun x => [x]).flatten, u.oneCell' = true := by
  intro u hu
  rw [flat_one] at hu
  obtain ⟨c, _, rfl⟩ := List.mem_map.1 hu
  cases c <;> rfl
set_option maxHeartbeats 1000000 in
set_option maxRecDepth 100000 in
theorem merge_any {W : World} {A : Option Addr} {cp : Nat} {cs : List (Option CD)} {rs : List Rw} {l : List En} {e : Int} (hR : Rd W A (cs.map ptrC)) (hsrc : ∀ d, some d ∈ cs → SrcOk d)
    (hdj : ∀ (i j : Nat) (c c' : Option CD), cs[i]? = some c → cs[j]? = some c' → i ≠ j → ∀ k, ofoot c k → ¬ ofoot c' k) (hlen : rs.length = cs.length) (hst : Sts cs rs W (fun _ _ => True)) (hfew : cs.length ≤ 1000000) (hmg : Mg rs l e) :
    Calls Try.prog 18 #[.slice A cs.length cp] W (Made W (fun k => ∃ c ∈ cs, ofoot c k) (told none l e).1 (told none l e).2) := by
  have hmf : ∀ (fn : Fn) (first cap : Array Value) (w : World), (Instr.makeFunc fn first cap).run Try.prog w = .ok (.func fn first cap) w := fun _ _ _ _ => rfl
  have hlt := hst.lt hlen
  have hys : ((cs.map ptrC).map fun x => [x]).length = cs.length := by simp
  have hR' : Rd W A ((cs.map ptrC).map fun x => [x]).flatten := by rw [flat_one]; exact hR
  go_enter Try.func18, Try.ntmps18
  go_wp2_with (at_builtin; go_must (refine appNK rfl _ _ 39 29 (.pointer none) 1 8 rfl Try.underlying39 infoPtr rfl (by decide) (by decide) (.slice none 0 0) [] rfl A ((cs.map ptrC).map fun x => [x]) cs.length cp hys.symm rfl (RowK.nil _ _ _) (fun y hy => by obtain ⟨x, _, rfl⟩ := List.mem_map.1 hy; rfl) hR' (ptrC_one cs) (by rw [hys]; simp; omega) ?_); intro v1 w1 hR1 hor1 hf1; rw [List.nil_append] at hR1; have hR2 := hR1.ofK; clear hR1; obtain ⟨A1, c1, rfl⟩ := hR2.slice; rw [List.length_map] at hR2 hor1 ⊢)
  have hGb : ∀ k, (Value.slice A1 cs.length c1).ownBlock = some k → k = W.heap.size := fun k hk => by
    rcases hor1 with h | h
    · rw [h] at hk; simp [Value.ownBlock] at hk
    · rw [h] at hk; injection hk with hk; exact hk.symm
  have hGl : ∀ k, (Value.slice A1 cs.length c1).ownBlock = some k → k < w1.heap.size := fun k hk => hR2.lt hk
  have hf1' : Fr (fun _ => False) W w1 := hf1.mono (fun i _ h => by simp [Value.ownBlock] at h)
  have hsz := hf1'.size
  have hb1 := Blk.at_new w1 [.slice A1 cs.length c1] 39 _ _ rfl rfl
  have hS : MgS w1.heap.size (.slice A1 cs.length c1) cs := ⟨hsrc, hdj, fun c hc h => by have := hlt c hc _ h; omega, fun k hk c hc h => by have := hGb k hk; have := hlt c hc _ h; omega⟩
  have ga := (Fr.refl (fun _ => False) w1).alloc (.cells #[.slice A1 cs.length c1] 39)
  have hst1 := (hst.fr hS hf1' (fun _ _ _ _ => id)).fr hS ga (fun _ _ _ _ => id)
  have Hall := Lib.hid (And.intro hb1 (And.intro hGb (And.intro hGl (And.intro (hf1'.trans ga (fun _ _ h => h)) (And.intro (hR2.fr ga (fun _ _ => id)) (And.intro hS (And.intro hst1 (And.intro hmg (And.intro hlen hlt)))))))))
  clear hR2 hor1 hf1 hb1 hGb hGl hR hR' hS hst1 hst hmg hlen hlt ga hf1' hsrc hdj hys
  go_wp2_with fail
  refine (from_any (.inr ⟨_, _, rfl⟩) _).mono ?_
  rintro en w3 ⟨cb, rfl, hcb, hf3, hcn⟩
  obtain ⟨hb1, hGb, hGl, hf1', hR2, hS, hst1, hmg, hlen, hlt⟩ := Hall.out
  have hz : (w1.alloc (.cells #[.slice A1 cs.length c1] 39)).heap.size = w1.heap.size + 1 := by simp
  have hf2 : Fr (fun _ => False) W w3 := hf1'.trans hf3 (fun _ _ h => h)
  have hs3 := hf3.size
  have hM := made (d := ⟨cb, .func (.func 28) #[] #[.pointer (some ⟨w1.heap.size, 0, none⟩)], mgF w1.heap.size (.slice A1 cs.length c1) cs, MgI w1.heap.size (.slice A1 cs.length c1) cs⟩)
    (mg_src hS (by
      rintro (h | h | ⟨c, hc, h⟩)
      · omega
      · have := hGl _ h; omega
      · have := hlt c hc _ h; omega)) (W := W) (W' := w3) (P := fun k => ∃ c ∈ cs, ofoot c k) (l0 := l) (e0 := e)
    ⟨hf3.blk hb1 id, hR2.fr hf3 (fun _ _ => id), hfew, fun c hc k hk => by have := hlt c hc k hk; omega, rs, hlen, hst1.fr hS hf3 (fun _ _ _ _ => id), hmg⟩
    (by
      rintro k (h | h | ⟨c, hc, h⟩)
      · omega
      · have := hGl _ h; omega
      · have := hlt c hc _ h; omega) hcb hf2 (by
      rintro k (h | h | h | h)
      · left; have : k = cb := h; omega
      · left; omega
      · left; have := hGb k h; omega
      · right; exact h)
  have HM := Lib.hid hM
  clear Hall hcb hf3 hb1 hGb hGl hf1' hR2 hS hst1 hmg hlen hlt hM hf2
  go_wp2
  go_ret
  exact HM.out
end Go.Proofs.Ytcpnjlnphjnhnaa

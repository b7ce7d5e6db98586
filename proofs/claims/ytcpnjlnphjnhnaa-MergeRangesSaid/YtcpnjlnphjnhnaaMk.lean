/- Cursors that are made: Over, over. Conditions: those of the lemmas. -/
import Derived.Test.YtcpnjlnphjnhnaaOver
namespace Go.Proofs.Ytcpnjlnphjnhnaa
open Go.RowKit
/-- A new cursor over this; P: the blocks of others that it uses. -/
def Made (W : World) (P : Nat → Prop) (l : List En) (e : Int) (en : Ending) (W' : World) : Prop :=
  ∃ d : CD, en = .returned (.pointer (some ⟨d.cb, 0, none⟩)) ∧ SrcOk d ∧ Cst d W' l e false ∧ Fr (fun _ => False) W W' ∧ ∀ k, d.foot k → W.heap.size ≤ k ∨ P k
theorem made {d : CD} (hd : SrcOk d) {W W' : World} {P : Nat → Prop} {l0 : List En} {e0 : Int} (hI : d.I W' l0 e0) (hl : ∀ k, d.F k → k < W'.heap.size) (hb : Blk W' d.cb (cur d.nx En.zero false 0 ⟨#[]⟩ false false) 57) (hf : Fr (fun _ => False) W W') (hP : ∀ k, d.foot k → W.heap.size ≤ k ∨ P k) :
    Made W P (told none l0 e0).1 (told none l0 e0).2 (.returned (.pointer (some ⟨d.cb, 0, none⟩))) W' :=
  ⟨d, rfl, hd, ⟨hl, En.zero, false, 0, ⟨#[]⟩, false, false, hb, .inl ⟨rfl, rfl, rfl, rfl, l0, e0, hI, rfl⟩⟩, hf, hP⟩
theorem RowK.at_own {w : World} {e : TypeId} {k : Nat} {A : Option Addr} {n c : Nat} {ys : List (List Value)} (h : RowK w e k (.slice A n c) ys) {ad : Addr} (ha : A = some ad) : (Value.slice A n c).ownBlock = some ad.block := by
  rcases h.form with ⟨h', _⟩ | ⟨g, c', cur, h', _⟩
  · injection h' with h1
    rw [h1] at ha
    cases ha
  · injection h' with h1
    subst h1
    injection ha with ha
    subst ha
    rfl
theorem ov_src {ob cb : Nat} {Gb : Nat → Prop} (h1 : ¬ Gb ob) (h2 : cb ≠ ob) (h3 : ¬ Gb cb) : SrcOk ⟨cb, .func (.func 25) #[] #[.pointer (some ⟨ob, 0, none⟩)], fun k => k = ob ∨ Gb k, OvI ob Gb⟩ :=
  ⟨fun hI hf hS => hI.fr hf hS, by rintro (h | h); exact h2 h; exact h3 h, .inr ⟨25, _, rfl, enters Try.func25 (by kernel_rfl) rfl, fun W x l e hI => ov_step h1 hI, fun W e hI => ov_end hI⟩⟩
set_option maxHeartbeats 1000000 in
set_option maxRecDepth 100000 in
theorem overL_any {W : World} {A : Option Addr} {cp : Nat} {l : List En} (hR : RdE W A l) (hfew : l.length ≤ 1000000) : Calls Try.prog 11 #[.slice A l.length cp] W (Made W (fun _ => False) (told none l 0).1 (told none l 0).2) := by
  have hmf : ∀ (fn : Fn) (first cap : Array Value) (w : World), (Instr.makeFunc fn first cap).run Try.prog w = .ok (.func fn first cap) w := fun _ _ _ _ => rfl
  go_enter Try.func11, Try.ntmps11
  go_wp2_with (at_builtin; go_must (refine appNK rfl _ _ 22 32 (.agg #[.string ⟨#[]⟩, .string ⟨#[]⟩, .bool false]) 3 40 rfl Try.underlying22 infoEn rfl (by decide) (by decide) (.slice none 0 0) [] rfl A (ens l) l.length cp (ens_len l).symm rfl (RowK.nil _ _ _) (ens_three l) hR (ens_one l) (by rw [ens_len]; simp; omega) ?_); intro v1 w1 hR1 hor1 hf1; rw [List.nil_append] at hR1; obtain ⟨A1, c1, rfl, hrd1, hle1, hmx1, _⟩ := hR1.rd; rw [ens_len] at hle1 hR1 hor1 ⊢)
  have hb1 := Blk.at_new w1 [.slice A1 l.length c1] 22 _ _ rfl rfl
  have hf2 := hf1.alloc (.cells #[.slice A1 l.length c1] 22)
  have hGb : ∀ k, (Value.slice A1 l.length c1).ownBlock = some k → k = W.heap.size := fun k hk => by
    rcases hor1 with h | h
    · rw [h] at hk; simp [Value.ownBlock] at hk
    · rw [h] at hk; injection hk with hk; exact hk.symm
  have hGl : ∀ k, (Value.slice A1 l.length c1).ownBlock = some k → k < w1.heap.size := fun k hk => hR1.lt hk
  have hf1' : Fr (fun _ => False) W w1 := hf1.mono (fun i _ h => by simp [Value.ownBlock] at h)
  have hown := fun ad (h : A1 = some ad) => hR1.at_own h
  have hsz := hf1'.size
  have hrd2 : RdE (w1.alloc (.cells #[.slice A1 l.length c1] 22)) A1 l := Rd.fr hrd1 ((Fr.refl (fun _ => False) w1).alloc _) (fun _ _ => id)
  have Hall := Lib.hid (And.intro hb1 (And.intro hGb (And.intro hGl (And.intro hf1' (And.intro hown (And.intro hrd2 (And.intro hle1 hmx1)))))))
  clear hR1 hor1 hf1 hrd1 hle1 hmx1 hb1 hGb hGl hown hrd2 hf2 hR
  go_wp2_with fail
  refine (from_any (.inr ⟨_, _, rfl⟩) _).mono ?_
  rintro en w3 ⟨cb, rfl, hcb, hf3, hcn⟩
  obtain ⟨hb1, hGb, hGl, hf1', hown, hrd2, hle1, hmx1⟩ := Hall.out
  have hz : (w1.alloc (.cells #[.slice A1 l.length c1] 22)).heap.size = w1.heap.size + 1 := by simp
  have hf2 : Fr (fun _ => False) W w3 := (hf1'.alloc _).trans hf3 (fun _ _ h => h)
  have hs3 := hf3.size
  have hM := made (d := ⟨cb, .func (.func 25) #[] #[.pointer (some ⟨w1.heap.size, 0, none⟩)], fun k => k = w1.heap.size ∨ (Value.slice A1 l.length c1).ownBlock = some k, OvI w1.heap.size fun k => (Value.slice A1 l.length c1).ownBlock = some k⟩)
    (ov_src (fun h => by have := hGl _ h; omega) (by omega) (fun h => by have := hGl _ h; omega)) (W := W) (W' := w3) (P := fun _ => False) (l0 := l) (e0 := 0)
    ⟨rfl, hfew, fun k hk => by have := hGl k hk; omega, A1, c1, hf3.blk hb1 id, hrd2.fr hf3 (fun _ _ => id), hown, hle1, by simpa [maxLen] using hmx1⟩
    (by rintro k (rfl | h); omega; have := hGl k h; omega) hcb hf2 (by
      rintro k (h | h | h)
      · left; have : k = cb := h; omega
      · left; omega
      · left; have := hGb k h; omega)
  have HM := Lib.hid hM
  clear Hall hcb hf3 hb1 hGb hGl hf1' hown hrd2 hle1 hmx1 hM hf2
  go_wp2
  go_ret
  exact HM.out
end Go.Proofs.Ytcpnjlnphjnhnaa

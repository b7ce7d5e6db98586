/- A scheduler: Step, whatever the task's function does by its contract. Conditions: those of the lemmas. -/
import Derived.Test.YtlljfopacdnpbaaSched2
namespace Go.Proofs.Ytlljfopacdnpbaa
open Go.RowKit
theorem enters {P : Program} {f : FuncId} {fn : Func} {c : Code} (hf : P.funcs[f]? = some fn) (hname : (fn.name == "runtime.NumGoroutine") = false) (hb : fn.body = some c) (args : Array Value) (w : World) : (callFunc f args).run P w = .ok (.enter f args) w := by
  have h1 : fn.name ≠ "runtime.NumGoroutine" := by simpa using hname
  simp [callFunc, hf, h1, hb, mark]
theorem FunV.store {f : Value} (h : FunV f) (P : Program) (w : World) (a : Addr) (m : Mode) : (store a f m).run P w = stored P w a f m := by
  rcases h with rfl | ⟨g, x, y, rfl⟩
  · exact run_store_nilFunc P w a m
  · exact run_store_func P w a m g x y
def heldBy (mp : Value) (k : Int) : Option Int := match mp with | .pointer none => none | _ => some k
theorem step_nil (W : World) (sl : Int) : Calls Try.prog 33 #[.pointer none, .int .i64 sl] W fun e w' => e = .returned (.int .i64 1) ∧ W = w' := by
  go_enter Try.func33, Try.ntmps33
  go_wp2
  go_ret
  exact ⟨rfl, rfl⟩
theorem step_out {W : World} {sb tb : Nat} {st : Int} {T : List TV} (h : Sch W sb tb st T) (sl : Int) (ho : sl < 0 ∨ (T.length : Int) ≤ sl) : Calls Try.prog 33 #[.pointer (some ⟨sb, 0, none⟩), .int .i64 sl] W fun e w' => e = .returned (.int .i64 1) ∧ W = w' := by
  have k0 := h.blk.cell 0 rfl
  by_cases h0 : sl < 0
  · clear ho h
    go_enter Try.func33, Try.ntmps33
    go_wp2
    go_ret
    exact ⟨rfl, rfl⟩
  · have h2 : (T.length : Int) ≤ sl := by omega
    clear ho h
    go_enter Try.func33, Try.ntmps33
    go_wp2
    go_ret
    exact ⟨rfl, rfl⟩
theorem step_dead {W : World} {sb tb : Nat} {st : Int} {T : List TV} (h : Sch W sb tb st T) {k : Nat} {p : TV} (hk : T[k]? = some p) (hd : isF p.1 = false) : Calls Try.prog 33 #[.pointer (some ⟨sb, 0, none⟩), .int .i64 (k : Int)] W fun e w' => e = .returned (.int .i64 9) ∧ W = w' := by
  have hal := alive_in h hk
  have k0 := h.blk.cell 0 rfl
  have hkl := (List.getElem?_eq_some_iff.1 hk).1
  have i0 : ¬ ((k : Int) < 0) := by omega
  have i1 : ¬ ((T.length : Int) ≤ (k : Int)) := by omega
  rw [hd] at hal
  clear hk h
  go_enter Try.func33, Try.ntmps33
  go_wp2_with fail
  refine hal.mono ?_
  rintro e w' ⟨rfl, rfl⟩
  go_wp2
  go_ret
  exact ⟨rfl, rfl⟩
theorem step_busy {W : World} {sb tb : Nat} {st : Int} {T : List TV} (h : Sch W sb tb st T) {k : Nat} {p : TV} (hk : T[k]? = some p) (hd : isF p.1 = true) {o : Option Int} (hm : MuV W p.2 o) (ho : 0 ≤ o.getD (-1)) : Calls Try.prog 33 #[.pointer (some ⟨sb, 0, none⟩), .int .i64 (k : Int)] W fun e w' => e = .returned (.int .i64 11) ∧ W = w' := by
  have hal := alive_in h hk
  have hrd := ready_in h hk (fun _ => hm)
  have k0 := h.blk.cell 0 rfl
  have hkl := (List.getElem?_eq_some_iff.1 hk).1
  have i0 : ¬ ((k : Int) < 0) := by omega
  have i1 : ¬ ((T.length : Int) ≤ (k : Int)) := by omega
  rw [hd] at hal
  rw [hd, decide_eq_false (by omega)] at hrd
  clear hk h
  go_enter Try.func33, Try.ntmps33
  go_wp2_with fail
  refine hal.mono ?_
  rintro e w' ⟨rfl, rfl⟩
  go_wp2_with fail
  refine hrd.mono ?_
  rintro e w' ⟨rfl, rfl⟩
  go_wp2
  go_ret
  exact ⟨rfl, rfl⟩
set_option maxHeartbeats 2000000 in
theorem step_go {W : World} {sb tb : Nat} {st : Int} {T : List TV} (h : Sch W sb tb st T) {k : Nat} {g : FuncId} {lb : Array Value} {mp : Value} (hk : T[k]? = some (.func (.func g) #[] lb, mp)) (hm : MuV W mp none)
    {Q : World → Value → Value → Prop} {S' : Nat → Prop} (h1 : ¬ S' sb) (h2 : ¬ S' tb) (h3 : ∀ q, W.heap.size ≤ q → ¬ S' q) (he : ∀ args w, (callFunc g args).run Try.prog w = .ok (.enter g args) w)
    (hcall : ∀ W1, Fr (fun q => q = sb ∨ mp = .pointer (some ⟨q, 0, none⟩)) W W1 → Sch W1 sb tb (wrap64 (st + 1)) T → MuV W1 mp (heldBy mp (k : Int)) →
      Calls Try.prog g (#[.int .i64 (k : Int)] ++ lb) W1 fun e w' => ∃ f' m', e = .returned (.agg #[f', m']) ∧ FunV f' ∧ (∃ q, m' = .pointer q) ∧ Fr S' W1 w' ∧ Q w' f' m') :
    Calls Try.prog 33 #[.pointer (some ⟨sb, 0, none⟩), .int .i64 (k : Int)] W fun e w' => e = .returned (.int .i64 0) ∧ ∃ W2 f' m', Q W2 f' m' ∧ Fr (fun q => q = tb) W2 w' ∧ Fr (fun q => q = sb ∨ mp = .pointer (some ⟨q, 0, none⟩) ∨ S' q) W W2 ∧ Sch w' sb tb (wrap64 (st + 1)) (T.set k (f', m')) := by
  have hal := alive_in h hk
  have hrd := ready_in h hk (fun _ => hm)
  have k0 := h.blk.cell 0 rfl
  have k1 := h.blk.cell 1 rfl
  have kf := h.tsk.cell _ (pairs_fst hk)
  have ks := h.tsk.cell _ (pairs_snd hk)
  have hkl := (List.getElem?_eq_some_iff.1 hk).1
  have ka : (⟨tb, 0, none⟩ : Addr).add (k * 2) = ⟨tb, k * 2, none⟩ := add_plain _ _
  have i0 : ¬ ((k : Int) < 0) := by omega
  have i1 : ¬ ((T.length : Int) ≤ (k : Int)) := by omega
  have i2 : (0 : Int) ≤ (k : Int) := by omega
  have i3 : (k : Int) < (T.length : Int) := by omega
  simp only [isF] at hal hrd
  rw [show (none : Option Int).getD (-1) = -1 from rfl, show decide ((-1 : Int) < 0) = true from rfl] at hrd
  simp only at kf ks
  have H := Lib.hid h
  have Hk := Lib.hid hk
  have Hcall := Lib.hid hcall
  clear h hk hcall
  rcases hm with ⟨rfl, _⟩ | ⟨mb, s, rfl, hmb, _⟩
  · have f1 : Fr (fun _ => False) W (W.alloc (.cells #[.func (.func g) #[] lb, .pointer none] 53)) := (Fr.refl (fun _ => False) W).alloc _
    have hb := Blk.at_new W [.func (.func g) #[] lb, .pointer none] 53 _ _ rfl rfl
    have b0 := hb.cell 0 rfl
    have b1 := hb.cell 1 rfl
    have hsb := f1.blk H.out.blk id
    have k0' := hsb.cell 0 rfl
    have k1' := hsb.cell 1 rfl
    have k1f := hsb.free 1
    have ksl := hsb.lt
    clear hsb hb
    go_enter Try.func33, Try.ntmps33
    go_wp2_with fail
    refine hal.mono ?_
    rintro e w' ⟨rfl, rfl⟩
    go_wp2_with fail
    refine hrd.mono ?_
    rintro e w' ⟨rfl, rfl⟩
    go_upto_region 11 with fail
    have hs1 : Sch ((W.alloc (.cells #[.func (.func g) #[] lb, .pointer none] 53)).setCell ⟨sb, 1, none⟩ (.int .i64 (wrap64 (st + 1)))) sb tb (wrap64 (st + 1)) T :=
      ⟨(f1.blk H.out.blk id).set 1 _, (f1.blk H.out.tsk id).other H.out.ne.symm _, H.out.fn, H.out.few⟩
    have hf1 : Fr (fun q => q = sb ∨ Value.pointer none = .pointer (some ⟨q, 0, none⟩)) W ((W.alloc (.cells #[.func (.func g) #[] lb, .pointer none] 53)).setCell ⟨sb, 1, none⟩ (.int .i64 (wrap64 (st + 1)))) :=
      (f1.mono (fun _ _ h => h.elim)).setCell _ _ (fun _ => .inl rfl)
    have c0 := (Blk.other (Blk.at_new W [.func (.func g) #[] lb, .pointer none] 53 _ _ rfl rfl) (a := ⟨sb, 1, none⟩) (by have := H.out.blk.lt; simp; omega) (.int .i64 (wrap64 (st + 1)))).cell 0 rfl
    generalize (W.alloc (.cells #[.func (.func g) #[] lb, .pointer none] 53)).setCell ⟨sb, 1, none⟩ (.int .i64 (wrap64 (st + 1))) = W1 at hs1 hf1 c0 ⊢
    have hnb := h3 W.heap.size (Nat.le_refl _)
    have hst1 : ¬ sb = tb := H.out.ne
    have hst2 : ¬ W.heap.size = tb := by have := H.out.tsk.lt; omega
    generalize W.heap.size = nb at c0 hnb hst2 ⊢
    have dr : Fr (fun _ => False) W1 W1.drew := (Fr.refl _ W1).drew
    have hc := Hcall.out W1.drew hf1.drew (hs1.fr dr id id) (.inl ⟨rfl, rfl⟩)
    have k0 := hs1.blk.cell 0 rfl
    have HC := Lib.hid hc
    have Hs1 := Lib.hid (hs1.fr dr id id)
    clear dr hs1 hc Hcall k0' k1' k1f ksl b0 b1 f1
    go_region_held3 (fun w' => w'.cell? ⟨sb, 0, none⟩ = some (.slice (some ⟨tb, 0, none⟩) T.length T.length) ∧ w'.cell? ⟨nb, 0, none⟩ = some (.func (.func g) #[] lb))
      (first | exact ⟨k0, c0⟩ | exact ⟨hf7.cell k0 h1, hf7.cell c0 hnb⟩ | exact ⟨(((Fr.refl (fun q => q = tb) w7).set1 _ _).set1 _ _).cell (hf7.cell k0 h1) hst1, (((Fr.refl (fun q => q = tb) w7).set1 _ _).set1 _ _).cell (hf7.cell c0 hnb) hst2⟩)
      (first
        | (refine HC.out.mono ?_; rintro e w7 ⟨f', m', rfl, hF, ⟨mq, rfl⟩, hf7, hQ⟩; have hst := hF.store Try.prog; have c7 := (Hs1.out.fr hf7 h1 h2).tsk.cell _ (pairs_fst Hk.out); have d7 := (Hs1.out.fr hf7 h1 h2).tsk.cell _ (pairs_snd Hk.out); have l7 := (Hs1.out.fr hf7 h1 h2).tsk.lt; have e7 := (Hs1.out.fr hf7 h1 h2).tsk.free (k * 2); have g7 := (Hs1.out.fr hf7 h1 h2).tsk.free (k * 2 + 1)))
    have Hs7 := Lib.hid (Hs1.out.fr hf7 h1 h2)
    have HF := Lib.hid (And.intro hF (And.intro hQ hf7))
    clear hst hF hQ hf7 c7 d7 l7 e7 g7
    go_wp2
    go_ret
    exact ⟨rfl, w7, f', _, HF.out.2.1, ((Fr.refl _ w7).set1 _ _).set1 _ _, (hf1.drew.mono (fun _ _ h => h.elim .inl (fun h => .inr (.inl h)))).trans HF.out.2.2 (fun _ _ h => .inr (.inr h)), Hs7.out.put hkl _ _ HF.out.1⟩
  · have f1 : Fr (fun _ => False) W (W.alloc (.cells #[.func (.func g) #[] lb, .pointer (some ⟨mb, 0, none⟩)] 53)) := (Fr.refl (fun _ => False) W).alloc _
    have hb := Blk.at_new W [.func (.func g) #[] lb, .pointer (some ⟨mb, 0, none⟩)] 53 _ _ rfl rfl
    have b0 := hb.cell 0 rfl
    have b1 := hb.cell 1 rfl
    have hmb1 := f1.blk hmb id
    have m0 := hmb1.cell 0 rfl
    have m1 := hmb1.cell 1 rfl
    have mf0 := hmb1.free 0
    have mf1 := hmb1.free 1
    have mlt := hmb1.lt
    have mlt0 := hmb.lt
    have n0 := hmb.cell 0 rfl
    have n1 := hmb.cell 1 rfl
    have nf0 := hmb.free 0
    have nf1 := hmb.free 1
    go_enter Try.func33, Try.ntmps33
    go_wp2_with fail
    refine hal.mono ?_
    rintro e w' ⟨rfl, rfl⟩
    go_wp2_with fail
    refine hrd.mono ?_
    rintro e w' ⟨rfl, rfl⟩
    go_upto_region 10 with fail
    have W9e : ∃ W9, ((W.setCell ⟨mb, 0, none⟩ (.bool true)).setCell ⟨mb, 1, none⟩ (.int .i64 (k : Int))).alloc (.cells #[.func (.func g) #[] lb, .pointer (some ⟨mb, 0, none⟩)] 53) = W9 := ⟨_, rfl⟩
    have z8 : ((W.setCell ⟨mb, 0, none⟩ (.bool true)).setCell ⟨mb, 1, none⟩ (.int .i64 (k : Int))).heap.size = W.heap.size := by simp
    have f8 : Fr (fun q => q = mb) W ((W.setCell ⟨mb, 0, none⟩ (.bool true)).setCell ⟨mb, 1, none⟩ (.int .i64 (k : Int))) := (((Fr.refl (fun q => q = mb) W).set1 0 (.bool true)).set1 1 (.int .i64 (k : Int)))
    have hS8 := H.out.fr f8 (H.out.blk.ne hmb (by decide)) (H.out.tsk.ne hmb (by decide))
    have hM8 := (hmb.set 0 (.bool true)).set 1 (.int .i64 (k : Int))
    obtain ⟨W9, hW9⟩ := W9e
    rw [hW9]
    have fa : Fr (fun _ => False) ((W.setCell ⟨mb, 0, none⟩ (.bool true)).setCell ⟨mb, 1, none⟩ (.int .i64 (k : Int))) W9 := by
      rw [← hW9]
      exact (Fr.refl (fun _ => False) _).alloc _
    have hS9 := hS8.fr fa id id
    have hM9 := fa.blk hM8 id
    have f9 : Fr (fun q => q = mb) W W9 := f8.trans fa (fun _ _ h => h.elim)
    have hb9 : Blk W9 W.heap.size [.func (.func g) #[] lb, .pointer (some ⟨mb, 0, none⟩)] 53 := by
      rw [← hW9]
      exact Blk.at_new _ _ _ _ _ z8.symm rfl
    have c9 := hb9.cell 0 rfl
    have l9 := hb9.lt
    clear fa hS8 hM8 f8 z8 hW9 hb9
    have k09 := hS9.blk.cell 0 rfl
    have k19 := hS9.blk.cell 1 rfl
    have k1f := hS9.blk.free 1
    have ksl := hS9.blk.lt
    have hn2 : W.heap.size ≠ sb := by have := H.out.blk.lt; omega
    have hn3 : mb ≠ sb := (H.out.blk.ne hmb (by decide)).symm
    clear n0 n1 nf0 nf1 hb b0 b1 hmb1 m0 m1 mf0 mf1 mlt f1
    go_upto_region 11 with fail
    have hs1 : Sch (W9.setCell ⟨sb, 1, none⟩ (.int .i64 (wrap64 (st + 1)))) sb tb (wrap64 (st + 1)) T :=
      ⟨hS9.blk.set 1 _, hS9.tsk.other H.out.ne.symm _, H.out.fn, H.out.few⟩
    have hf1 : Fr (fun q => q = sb ∨ Value.pointer (some ⟨mb, 0, none⟩) = .pointer (some ⟨q, 0, none⟩)) W (W9.setCell ⟨sb, 1, none⟩ (.int .i64 (wrap64 (st + 1)))) :=
      (f9.mono (fun _ _ h => .inr (by rw [h]))).setCell _ _ (fun _ => .inl rfl)
    have hm1 : Blk (W9.setCell ⟨sb, 1, none⟩ (.int .i64 (wrap64 (st + 1)))) mb [.bool true, .int .i64 (k : Int)] 83 := hM9.other hn3 _
    have c0 : (W9.setCell ⟨sb, 1, none⟩ (.int .i64 (wrap64 (st + 1)))).cell? ⟨W.heap.size, 0, none⟩ = some (.func (.func g) #[] lb) := ((Fr.refl (fun q => q = sb) W9).set1 1 (.int .i64 (wrap64 (st + 1)))).cell c9 hn2
    generalize W9.setCell ⟨sb, 1, none⟩ (.int .i64 (wrap64 (st + 1))) = W1 at hs1 hf1 hm1 c0 ⊢
    have hnb := h3 W.heap.size (Nat.le_refl _)
    have hst1 : ¬ sb = tb := H.out.ne
    have hst2 : ¬ W.heap.size = tb := by have := H.out.tsk.lt; omega
    clear hS9 hM9 f9 c9 l9 k09 k19 k1f ksl hn2 hmb
    generalize W.heap.size = nb at c0 hnb hst2 ⊢
    have dr : Fr (fun _ => False) W1 W1.drew := (Fr.refl _ W1).drew
    have hc := Hcall.out W1.drew hf1.drew (hs1.fr dr id id) (.inr ⟨mb, k, rfl, hm1, fun x hx => by injection hx⟩)
    have k0 := hs1.blk.cell 0 rfl
    have HC := Lib.hid hc
    have Hs1 := Lib.hid (hs1.fr dr id id)
    clear dr hs1 hc Hcall hm1
    go_region_held3 (fun w' => w'.cell? ⟨sb, 0, none⟩ = some (.slice (some ⟨tb, 0, none⟩) T.length T.length) ∧ w'.cell? ⟨nb, 0, none⟩ = some (.func (.func g) #[] lb))
      (first | exact ⟨k0, c0⟩ | exact ⟨hf7.cell k0 h1, hf7.cell c0 hnb⟩ | exact ⟨(((Fr.refl (fun q => q = tb) w7).set1 _ _).set1 _ _).cell (hf7.cell k0 h1) hst1, (((Fr.refl (fun q => q = tb) w7).set1 _ _).set1 _ _).cell (hf7.cell c0 hnb) hst2⟩)
      (first
        | (refine HC.out.mono ?_; rintro e w7 ⟨f', m', rfl, hF, ⟨mq, rfl⟩, hf7, hQ⟩; have hst := hF.store Try.prog; have c7 := (Hs1.out.fr hf7 h1 h2).tsk.cell _ (pairs_fst Hk.out); have d7 := (Hs1.out.fr hf7 h1 h2).tsk.cell _ (pairs_snd Hk.out); have l7 := (Hs1.out.fr hf7 h1 h2).tsk.lt; have e7 := (Hs1.out.fr hf7 h1 h2).tsk.free (k * 2); have g7 := (Hs1.out.fr hf7 h1 h2).tsk.free (k * 2 + 1)))
    have Hs7 := Lib.hid (Hs1.out.fr hf7 h1 h2)
    have HF := Lib.hid (And.intro hF (And.intro hQ hf7))
    clear hst hF hQ hf7 c7 d7 l7 e7 g7
    go_wp2
    go_ret
    exact ⟨rfl, w7, f', _, HF.out.2.1, ((Fr.refl _ w7).set1 _ _).set1 _ _, (hf1.drew.mono (fun _ _ h => h.elim .inl (fun h => .inr (.inl h)))).trans HF.out.2.2 (fun _ _ h => .inr (.inr h)), Hs7.out.put hkl _ _ HF.out.1⟩
end Go.Proofs.Ytlljfopacdnpbaa

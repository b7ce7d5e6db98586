/- A scheduler: Ready, Put, Drop. Conditions: those of the lemmas. -/
import Derived.Test.YtlljfopacdnpbaaSched
namespace Go.Proofs.Ytlljfopacdnpbaa
open Go.RowKit
theorem Sch.ne {W : World} {sb tb : Nat} {st : Int} {T : List TV} (h : Sch W sb tb st T) : sb ≠ tb := h.blk.ne h.tsk (by decide)
theorem Sch.put {W : World} {sb tb : Nat} {st : Int} {T : List TV} (h : Sch W sb tb st T) {k : Nat} (hk : k < T.length) (f m : Value) (hf : FunV f) : Sch ((W.setCell ⟨tb, k * 2, none⟩ f).setCell ⟨tb, k * 2 + 1, none⟩ m) sb tb st (T.set k (f, m)) := by
  refine ⟨?_, ?_, fun p hp => ?_, by rw [List.length_set]; exact h.few⟩
  · rw [List.length_set]
    exact (h.blk.other h.ne _).other h.ne _
  · rw [← pairs_set hk]
    exact (h.tsk.set _ _).set _ _
  · rcases List.mem_or_eq_of_mem_set hp with hp | rfl
    · exact h.fn p hp
    · exact hf
theorem ready_in {W : World} {sb tb : Nat} {st : Int} {T : List TV} (h : Sch W sb tb st T) {k : Nat} {p : TV} (hk : T[k]? = some p) {hd : Option Int} (hm : isF p.1 = true → MuV W p.2 hd) : Calls Try.prog 35 #[.pointer (some ⟨sb, 0, none⟩), .int .i64 (k : Int)] W fun e w' => e = .returned (.bool (isF p.1 && decide (hd.getD (-1) < 0))) ∧ W = w' := by
  have hal := alive_in h hk
  have k0 := h.blk.cell 0 rfl
  have kf := h.tsk.cell _ (pairs_snd hk)
  have hkl := (List.getElem?_eq_some_iff.1 hk).1
  have ka : (⟨tb, 0, none⟩ : Addr).add (k * 2) = ⟨tb, k * 2, none⟩ := add_plain _ _
  have i0 : (0 : Int) ≤ (k : Int) := by omega
  have i1 : (k : Int) < (T.length : Int) := by omega
  obtain ⟨f, m⟩ := p
  simp only at kf hal hm ⊢
  clear hk h
  cases hf : isF f
  · rw [hf] at hal
    go_enter Try.func35, Try.ntmps35
    go_wp2_with fail
    refine hal.mono ?_
    rintro e w' ⟨rfl, rfl⟩
    go_wp2
    go_ret
    exact ⟨rfl, rfl⟩
  · rw [hf] at hal
    have hh := holder_any (hm hf)
    go_enter Try.func35, Try.ntmps35
    go_wp2_with fail
    refine hal.mono ?_
    rintro e w' ⟨rfl, rfl⟩
    go_wp2_with fail
    refine hh.mono ?_
    rintro e w' ⟨rfl, rfl⟩
    go_wp2
    go_ret
    exact ⟨by simp, rfl⟩
theorem ready_out {W : World} {sb tb : Nat} {st : Int} {T : List TV} (h : Sch W sb tb st T) (sl : Int) (ho : sl < 0 ∨ (T.length : Int) ≤ sl) : Calls Try.prog 35 #[.pointer (some ⟨sb, 0, none⟩), .int .i64 sl] W fun e w' => e = .returned (.bool false) ∧ W = w' := by
  have hal := alive_out h sl ho
  clear h
  go_enter Try.func35, Try.ntmps35
  go_wp2_with fail
  refine hal.mono ?_
  rintro e w' ⟨rfl, rfl⟩
  go_wp2
  go_ret
  exact ⟨rfl, rfl⟩
theorem ready_nil (W : World) (sl : Int) : Calls Try.prog 35 #[.pointer none, .int .i64 sl] W fun e w' => e = .returned (.bool false) ∧ W = w' := by
  go_enter Try.func35, Try.ntmps35
  go_wp2_with fail
  refine (alive_nil W sl).mono ?_
  rintro e w' ⟨rfl, rfl⟩
  go_wp2
  go_ret
  exact ⟨rfl, rfl⟩
/-! ### Put -/
theorem put_nil (W : World) (sl : Int) (f m : Value) : Calls Try.prog 25 #[.pointer none, .int .i64 sl, .agg #[f, m]] W fun e w' => e = .returned (.int .i64 1) ∧ Fr (fun _ => False) W w' := by
  go_enter Try.func25, Try.ntmps25
  go_wp2
  go_ret
  exact ⟨rfl, (Fr.refl _ W).alloc _⟩
theorem put_out {W : World} {sb tb : Nat} {st : Int} {T : List TV} (h : Sch W sb tb st T) (sl : Int) (ho : sl < 0 ∨ (T.length : Int) ≤ sl) (f m : Value) : Calls Try.prog 25 #[.pointer (some ⟨sb, 0, none⟩), .int .i64 sl, .agg #[f, m]] W fun e w' => e = .returned (.int .i64 1) ∧ Fr (fun _ => False) W w' := by
  have h1 := h.fr ((Fr.refl (fun _ => False) W).alloc (.cells #[f, m] 53)) id id
  have k0 := h1.blk.cell 0 rfl
  by_cases h0 : sl < 0
  · clear ho h h1
    go_enter Try.func25, Try.ntmps25
    go_wp2
    go_ret
    exact ⟨rfl, (Fr.refl _ W).alloc _⟩
  · have h2 : (T.length : Int) ≤ sl := by omega
    clear ho h h1
    go_enter Try.func25, Try.ntmps25
    go_wp2
    go_ret
    exact ⟨rfl, (Fr.refl _ W).alloc _⟩
theorem put_none {W : World} {sb tb : Nat} {st : Int} {T : List TV} (h : Sch W sb tb st T) (sl : Int) (m : Value) : Calls Try.prog 25 #[.pointer (some ⟨sb, 0, none⟩), .int .i64 sl, .agg #[.nilFunc, m]] W fun e w' => e = .returned (.int .i64 1) ∧ Fr (fun _ => False) W w' := by
  by_cases ho : sl < 0 ∨ (T.length : Int) ≤ sl
  · exact put_out h sl ho _ _
  · have h1 := h.fr ((Fr.refl (fun _ => False) W).alloc (.cells #[.nilFunc, m] 53)) id id
    have k0 := h1.blk.cell 0 rfl
    have hb := Blk.at_new W [.nilFunc, m] 53 _ _ rfl rfl
    have b0 := hb.cell 0 rfl
    have h2 : ¬ (sl < 0) := by omega
    have h3 : ¬ ((T.length : Int) ≤ sl) := by omega
    have hq := fun (w : World) => run_eql_nil_nil (P := Try.prog) 51 Try.underlying51 w
    clear ho h h1 hb
    go_enter Try.func25, Try.ntmps25
    go_wp2
    go_ret
    exact ⟨rfl, (Fr.refl _ W).alloc _⟩
theorem put_in {W : World} {sb tb : Nat} {st : Int} {T : List TV} (h : Sch W sb tb st T) {k : Nat} {p : TV} (hk : T[k]? = some p) (g : Fn) (x y : Array Value) (m : Value) (hm : ∃ q, m = .pointer q) :
    Calls Try.prog 25 #[.pointer (some ⟨sb, 0, none⟩), .int .i64 (k : Int), .agg #[.func g x y, m]] W fun e w' => if isF p.1 then e = .returned (.int .i64 11) ∧ Fr (fun _ => False) W w' else e = .returned (.int .i64 0) ∧ Sch w' sb tb st (T.set k (.func g x y, m)) ∧ Fr (fun q => q = tb) W w' := by
  have f1 : Fr (fun _ => False) W (W.alloc (.cells #[.func g x y, m] 53)) := (Fr.refl (fun _ => False) W).alloc _
  have h1 := h.fr f1 id id
  have hb := Blk.at_new W [.func g x y, m] 53 _ _ rfl rfl
  have hne : tb ≠ W.heap.size := by have := h.tsk.lt; omega
  have hsb := h1.blk
  have hlt := h1.tsk.lt
  have hfree := fun o => h1.tsk.free o
  have hT := h1.tsk
  have k0 := h1.blk.cell 0 rfl
  have kf := h1.tsk.cell _ (pairs_fst hk)
  have ks := h1.tsk.cell _ (pairs_snd hk)
  have b0 := hb.cell 0 rfl
  have b1 := hb.cell 1 rfl
  have hf := h.fnAt hk
  have hkl := (List.getElem?_eq_some_iff.1 hk).1
  have ka : (⟨tb, 0, none⟩ : Addr).add (k * 2) = ⟨tb, k * 2, none⟩ := add_plain _ _
  have i0 : ¬ ((k : Int) < 0) := by omega
  have i1 : ¬ ((T.length : Int) ≤ (k : Int)) := by omega
  have i2 : (0 : Int) ≤ (k : Int) := by omega
  have i3 : (k : Int) < (T.length : Int) := by omega
  have hq := fun (w : World) => run_eql_func_nil (P := Try.prog) 51 Try.underlying51 w g x y
  obtain ⟨f, m0⟩ := p
  obtain ⟨mq, rfl⟩ := hm
  simp only at kf ks hf ⊢
  rcases hf with rfl | ⟨g', a, b, rfl⟩
  · have hq2 := fun (w : World) => run_neq_nil_nil (P := Try.prog) 51 Try.underlying51 w
    have H := Lib.hid h
    have H1 := Lib.hid h1
    have HT := Lib.hid hT
    have f2 := hfree (k * 2)
    have f3 := hfree (k * 2 + 1)
    clear h h1 hk hb hT hfree
    go_enter Try.func25, Try.ntmps25
    go_upto_region 5 with fail
    go_region
    go_wp2
    go_ret
    exact ⟨rfl, (H1.out.put hkl _ _ (.inr ⟨g, x, y, rfl⟩)).fr ((Fr.refl (fun _ => False) _).drew) id id, (((f1.mono (fun _ _ h => h.elim)).set1 _ _).set1 _ _).drew⟩
  · have hq2 := fun (w : World) => run_neq_func_nil (P := Try.prog) 51 Try.underlying51 w g' a b
    clear h h1 hk hb hT hfree
    go_enter Try.func25, Try.ntmps25
    go_wp2
    go_ret
    exact ⟨rfl, f1⟩
/-! ### Drop -/
theorem drop_in {W : World} {sb tb : Nat} {st : Int} {T : List TV} (h : Sch W sb tb st T) {k : Nat} {p : TV} (hk : T[k]? = some p) :
    Calls Try.prog 32 #[.pointer (some ⟨sb, 0, none⟩), .int .i64 (k : Int)] W fun e w' => e = .returned (.tuple #[]) ∧ Sch w' sb tb st (if isF p.1 then T.set k (.nilFunc, .pointer none) else T) ∧ Fr (fun q => q = tb) W w' := by
  have hal := alive_in h hk
  have k0 := h.blk.cell 0 rfl
  have hlt := h.tsk.lt
  have f0 := h.tsk.free (k * 2)
  have f1 := h.tsk.free (k * 2 + 1)
  have kf := h.tsk.cell _ (pairs_fst hk)
  have ks := h.tsk.cell _ (pairs_snd hk)
  have hkl := (List.getElem?_eq_some_iff.1 hk).1
  have ka : (⟨tb, 0, none⟩ : Addr).add (k * 2) = ⟨tb, k * 2, none⟩ := add_plain _ _
  have i0 : (0 : Int) ≤ (k : Int) := by omega
  have i1 : (k : Int) < (T.length : Int) := by omega
  have H := Lib.hid h
  clear h hk
  cases hf : isF p.1
  · rw [hf] at hal
    go_enter Try.func32, Try.ntmps32
    go_wp2_with fail
    refine hal.mono ?_
    rintro e w' ⟨rfl, rfl⟩
    go_wp2
    go_end0
    exact ⟨rfl, H.out, Fr.refl _ _⟩
  · rw [hf] at hal
    go_enter Try.func32, Try.ntmps32
    go_wp2_with fail
    refine hal.mono ?_
    rintro e w' ⟨rfl, rfl⟩
    go_wp2
    go_end0
    exact ⟨rfl, H.out.put hkl _ _ (.inl rfl), ((Fr.refl _ W).set1 _ _).set1 _ _⟩
theorem drop_out {W : World} {sb tb : Nat} {st : Int} {T : List TV} (h : Sch W sb tb st T) (sl : Int) (ho : sl < 0 ∨ (T.length : Int) ≤ sl) : Calls Try.prog 32 #[.pointer (some ⟨sb, 0, none⟩), .int .i64 sl] W fun e w' => e = .returned (.tuple #[]) ∧ W = w' := by
  have hal := alive_out h sl ho
  clear h
  go_enter Try.func32, Try.ntmps32
  go_wp2_with fail
  refine hal.mono ?_
  rintro e w' ⟨rfl, rfl⟩
  go_wp2
  go_end0
  exact ⟨rfl, rfl⟩
theorem drop_nil (W : World) (sl : Int) : Calls Try.prog 32 #[.pointer none, .int .i64 sl] W fun e w' => e = .returned (.tuple #[]) ∧ W = w' := by
  go_enter Try.func32, Try.ntmps32
  go_wp2_with fail
  refine (alive_nil W sl).mono ?_
  rintro e w' ⟨rfl, rfl⟩
  go_wp2
  go_end0
  exact ⟨rfl, rfl⟩
end Go.Proofs.Ytlljfopacdnpbaa

/- Words for the scheduler's memory: cells, mutexes, a scheduler and its tasks. Conditions: those of the lemmas. -/
import Derived.Test.YtlljfopacdnpbaaRowK
import Derived.Deep.RegionHeld3
import Derived.Deep.RegionLaw
import Derived.Deep.QuietTactic
import Derived.BigQuiet
import Derived.Laws.EntriesVeiled
import Derived.Lib.Strings
namespace Go.Proofs.Ytlljfopacdnpbaa
open Go.RowKit
/-! ### nil functions -/
theorem run_eql_func_nil {P : Program} (t : TypeId) {a b c : _} (ht : P.underlying t = some (.func a b c)) (w : World) (fn : Fn) (x y : Array Value) : (binOp .eql t (.func fn x y) .nilFunc).run P w = .ok (.bool false) w := by
  have h : ∀ d : Nat, (Op.equalIn (d + 1) t (.func fn x y) .nilFunc).run P w = .ok false w := fun d => by simp [Op.equalIn, run_underlying ht]
  simp only [binOp]
  simp [Op.equal, Op.maxDepth, h 9999]
theorem run_eql_nil_nil {P : Program} (t : TypeId) {a b c : _} (ht : P.underlying t = some (.func a b c)) (w : World) : (binOp .eql t .nilFunc .nilFunc).run P w = .ok (.bool true) w := by
  have h : ∀ d : Nat, (Op.equalIn (d + 1) t .nilFunc .nilFunc).run P w = .ok true w := fun d => by simp [Op.equalIn, run_underlying ht]
  simp only [binOp]
  simp [Op.equal, Op.maxDepth, h 9999]
theorem run_neq_func_nil {P : Program} (t : TypeId) {a b c : _} (ht : P.underlying t = some (.func a b c)) (w : World) (fn : Fn) (x y : Array Value) : (binOp .neq t (.func fn x y) .nilFunc).run P w = .ok (.bool true) w := by
  have h : ∀ d : Nat, (Op.equalIn (d + 1) t (.func fn x y) .nilFunc).run P w = .ok false w := fun d => by simp [Op.equalIn, run_underlying ht]
  simp only [binOp]
  simp [Op.equal, Op.maxDepth, h 9999]
theorem run_neq_nil_nil {P : Program} (t : TypeId) {a b c : _} (ht : P.underlying t = some (.func a b c)) (w : World) : (binOp .neq t .nilFunc .nilFunc).run P w = .ok (.bool false) w := by
  have h : ∀ d : Nat, (Op.equalIn (d + 1) t .nilFunc .nilFunc).run P w = .ok true w := fun d => by simp [Op.equalIn, run_underlying ht]
  simp only [binOp]
  simp [Op.equal, Op.maxDepth, h 9999]
theorem toList_ne {a b : ByteArray} (h : a ≠ b) : (a.toList == b.toList) = false := by
  rw [beq_eq_false_iff_ne, Lib.toList_data, Lib.toList_data]
  exact fun e => h (ByteArray.ext (Array.toList_inj.1 e))
/-! ### tasks -/
abbrev TV := Value × Value
def isF : Value → Bool
  | .func _ _ _ => true
  | _ => false
def FunV (f : Value) : Prop := f = .nilFunc ∨ ∃ g a b, f = .func g a b
def pairs (T : List TV) : List Value := (T.map fun p => [p.1, p.2]).flatten
theorem pairs_two (T : List TV) : ∀ y ∈ T.map (fun p => [p.1, p.2]), y.length = 2 := fun y hy => by obtain ⟨p, _, rfl⟩ := List.mem_map.1 hy; rfl
theorem pairs_fst {T : List TV} {k : Nat} {p : TV} (h : T[k]? = some p) : (pairs T)[k * 2]? = some p.1 := by
  have := flat_at _ (pairs_two T) k 0 [p.1, p.2] (by rw [List.getElem?_map, h]; rfl) (by decide)
  simpa [pairs] using this
theorem pairs_snd {T : List TV} {k : Nat} {p : TV} (h : T[k]? = some p) : (pairs T)[k * 2 + 1]? = some p.2 := by
  have := flat_at _ (pairs_two T) k 1 [p.1, p.2] (by rw [List.getElem?_map, h]; rfl) (by decide)
  simpa [pairs] using this
theorem pairs_len (T : List TV) : (pairs T).length = T.length * 2 := by
  have := flat_len _ (pairs_two T)
  simpa [pairs] using this
theorem pairs_set {T : List TV} {k : Nat} (h : k < T.length) (f m : Value) : ((pairs T).set (k * 2) f).set (k * 2 + 1) m = pairs (T.set k (f, m)) := by
  have e0 : (T.map fun p => [p.1, p.2])[k]? = some [T[k].1, T[k].2] := by rw [List.getElem?_map, List.getElem?_eq_getElem h]; rfl
  have h1 := flat_set _ (pairs_two T) k 0 _ f e0 (by decide)
  have two2 : ∀ y ∈ (T.map fun p => [p.1, p.2]).set k [f, T[k].2], y.length = 2 := fun y hy => by
    rcases List.mem_or_eq_of_mem_set hy with hy | rfl
    · exact pairs_two T y hy
    · rfl
  have e1 : ((T.map fun p => [p.1, p.2]).set k [f, T[k].2])[k]? = some [f, T[k].2] := by rw [List.getElem?_set_self (by simpa using h)]
  have h2 := flat_set _ two2 k 1 _ m e1 (by decide)
  simp only [List.set_cons_zero, List.set_cons_succ, Nat.add_zero] at h1 h2
  unfold pairs
  rw [← h1, ← h2, List.set_set, List.map_set]
/-! ### a mutex -/
def MuV (W : World) (mp : Value) (h : Option Int) : Prop := (mp = .pointer none ∧ h = none) ∨ ∃ mb s, mp = .pointer (some ⟨mb, 0, none⟩) ∧ Blk W mb [.bool h.isSome, .int .i64 s] 83 ∧ ∀ x, h = some x → s = x
theorem MuV.fr {S : Nat → Prop} {W W' : World} {mp : Value} {h : Option Int} (hm : MuV W mp h) (hf : Fr S W W') (hS : ∀ mb, mp = .pointer (some ⟨mb, 0, none⟩) → ¬ S mb) : MuV W' mp h := by
  rcases hm with h | ⟨mb, s, rfl, hb, hs⟩
  · exact .inl h
  · exact .inr ⟨mb, s, rfl, hf.blk hb (hS mb rfl), hs⟩
/-! ### a scheduler -/
structure Sch (W : World) (sb tb : Nat) (st : Int) (T : List TV) : Prop where
  blk : Blk W sb [.slice (some ⟨tb, 0, none⟩) T.length T.length, .int .i64 st] 78
  tsk : Blk W tb (pairs T) 53
  fn : ∀ p ∈ T, FunV p.1
  few : T.length ≤ 16
theorem Sch.fr {S : Nat → Prop} {W W' : World} {sb tb : Nat} {st : Int} {T : List TV} (h : Sch W sb tb st T) (hf : Fr S W W') (h1 : ¬ S sb) (h2 : ¬ S tb) : Sch W' sb tb st T :=
  ⟨hf.blk h.blk h1, hf.blk h.tsk h2, h.fn, h.few⟩
theorem Sch.fnAt {W : World} {sb tb : Nat} {st : Int} {T : List TV} (h : Sch W sb tb st T) {k : Nat} {p : TV} (hk : T[k]? = some p) : FunV p.1 := h.fn p (List.mem_of_getElem? hk)
end Go.Proofs.Ytlljfopacdnpbaa

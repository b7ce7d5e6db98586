/- Words for the memory of cursors. Conditions: those of the lemmas. -/
import Derived.Test.YtcpnjlnphjnhnaaRowK
import Derived.Test.YtcpnjlnphjnhnaaPure
import Derived.Deep.RegionHeld3
import Derived.Deep.RegionLaw
import Derived.Deep.QuietTactic
import Derived.BigQuiet
import Derived.Laws.EntriesVeiled
import Derived.Laws.StructEq
import Derived.Lib.Strings
namespace Go.Proofs.Ytcpnjlnphjnhnaa
open Go.RowKit
/-! ### nil functions -/
theorem run_eql_func_nil {P : Program} (t : TypeId) {a b c : _} (ht : P.underlying t = some (.func a b c)) (w : World) (fn : Fn) (x y : Array Value) : (binOp .eql t (.func fn x y) .nilFunc).run P w = .ok (.bool false) w := by
  have h : ∀ d : Nat, (Op.equalIn (d + 1) t (.func fn x y) .nilFunc).run P w = .ok false w := fun d => by simp [Op.equalIn, run_underlying ht]
  simp only [binOp]
  simp [Op.equal, Op.maxDepth, h 9999]
theorem run_eql_nil_nil {P : Program} (t : TypeId) {a b c : _} (ht : P.underlying t = some (.func a b c)) (w : World) : (binOp .eql t .nilFunc .nilFunc).run P w = .ok (.bool true) w := by
  have h : ∀ d : Nat, (Op.equalIn (d + 1) t .nilFunc .nilFunc).run P w = .ok true w := fun d => by simp [Op.equalIn, run_underlying ht]
  simp only [binOp]
  simp [Op.equal, Op.maxDepth, h 9999]
theorem run_neq_func_nil {P : Program} (t : TypeId) {a b c : _} (ht : P.underlying t = some (.func a b c)) (w : World) (fn : Fn) (x y : Array Value) : (binOp .neq t (.func fn x y) .nilFunc).run P w = .ok (.bool true) w := by
  have h : ∀ d : Nat, (Op.equalIn (d + 1) t (.func fn x y) .nilFunc).run P w = .ok false w := fun d => by simp [Op.equalIn, run_underlying ht]
  simp only [binOp]
  simp [Op.equal, Op.maxDepth, h 9999]
theorem run_neq_nil_nil {P : Program} (t : TypeId) {a b c : _} (ht : P.underlying t = some (.func a b c)) (w : World) : (binOp .neq t .nilFunc .nilFunc).run P w = .ok (.bool false) w := by
  have h : ∀ d : Nat, (Op.equalIn (d + 1) t .nilFunc .nilFunc).run P w = .ok true w := fun d => by simp [Op.equalIn, run_underlying ht]
  simp only [binOp]
  simp [Op.equal, Op.maxDepth, h 9999]
theorem enters {P : Program} {f : FuncId} {fn : Func} {c : Code} (hf : P.funcs[f]? = some fn) (hname : (fn.name == "runtime.NumGoroutine") = false) (hb : fn.body = some c) (args : Array Value) (w : World) : (callFunc f args).run P w = .ok (.enter f args) w := by
  have h1 : fn.name ≠ "runtime.NumGoroutine" := by simpa using hname
  simp [callFunc, hf, h1, hb, mark]
/-! ### Entries -/
def enV (x : En) : List Value := [.string x.key, .string x.val, .bool x.gone]
def ens (l : List En) : List (List Value) := l.map enV
theorem ens_len (l : List En) : (ens l).length = l.length := by simp [ens]
theorem ens_three (l : List En) : ∀ y ∈ ens l, y.length = 3 := fun y hy => by obtain ⟨p, _, rfl⟩ := List.mem_map.1 hy; rfl
theorem ens_one (l : List En) : ∀ u ∈ (ens l).flatten, u.oneCell' = true := fun u hu => by
  obtain ⟨y, hy, hu⟩ := List.mem_flatten.1 hu
  obtain ⟨p, _, rfl⟩ := List.mem_map.1 hy
  simp only [enV, List.mem_cons, List.not_mem_nil, or_false] at hu
  rcases hu with rfl | rfl | rfl <;> rfl
theorem ens_snoc (l : List En) (x : En) : ens (l ++ [x]) = ens l ++ [enV x] := by simp [ens]
theorem infoEn : (Try.prog.info? 32).map (fun i => (i.zero, i.size, i.bytes)) = some (some (.agg #[.string ⟨#[]⟩, .string ⟨#[]⟩, .bool false]), 3, 40) := by kernel_rfl
/-- The slice at A reads as l. -/
def RdE (W : World) (A : Option Addr) (l : List En) : Prop := Rd W A (ens l).flatten
theorem add_off {a : Addr} {j : Nat} (h : j ≠ 0) : a.add j = ⟨a.block, a.off + j, none⟩ := by unfold Addr.add; rw [if_neg h]
theorem RdE.cells {W : World} {A : Option Addr} {l : List En} (h : RdE W A l) {i : Nat} {x : En} (hi : l[i]? = some x) : ∃ ad, A = some ad ∧ W.cell? (ad.add (i * 3)) = some (.string x.key) ∧ W.cell? ⟨(ad.add (i * 3)).block, (ad.add (i * 3)).off + 1, none⟩ = some (.string x.val) ∧ W.cell? ⟨(ad.add (i * 3)).block, (ad.add (i * 3)).off + 2, none⟩ = some (.bool x.gone) := by
  have hy : (ens l)[i]? = some (enV x) := by simp [ens, hi]
  obtain ⟨ad, e, h0⟩ := h (i * 3 + 0) (.string x.key) (by rw [flat_at (ens l) (ens_three l) i 0 _ hy (by decide)]; rfl)
  obtain ⟨ad1, e1, h1⟩ := h (i * 3 + 1) (.string x.val) (by rw [flat_at (ens l) (ens_three l) i 1 _ hy (by decide)]; rfl)
  obtain ⟨ad2, e2, h2⟩ := h (i * 3 + 2) (.bool x.gone) (by rw [flat_at (ens l) (ens_three l) i 2 _ hy (by decide)]; rfl)
  rw [e] at e1 e2
  injection e1 with e1
  injection e2 with e2
  subst e1
  subst e2
  exact ⟨ad, e, h0, by rw [← add_off (show (1 : Nat) ≠ 0 by decide), add_add]; exact h1, by rw [← add_off (show (2 : Nat) ≠ 0 by decide), add_add]; exact h2⟩
/-! ### Cursors -/
def cur (nx : Value) (h : En) (hv : Bool) (f : Int) (last : ByteArray) (bg dn : Bool) : List Value := [nx, .string h.key, .string h.val, .bool h.gone, .bool hv, .int .i64 f, .string last, .bool bg, .bool dn]
/-- What stays of a cursor: its block, its source, the blocks that the source owns, what the source holds. -/
structure CD where
  cb : Nat
  nx : Value
  F : Nat → Prop
  I : World → List En → Int → Prop
def CD.foot (d : CD) (k : Nat) : Prop := k = d.cb ∨ d.F k
structure SrcOk (d : CD) : Prop where
  fr : ∀ {S : Nat → Prop} {W W' : World} {l : List En} {e : Int}, d.I W l e → Fr S W W' → (∀ k, d.F k → ¬ S k) → d.I W' l e
  ne : ¬ d.F d.cb
  src : (d.nx = .nilFunc ∧ ∀ W l e, d.I W l e → l = [] ∧ e = 0) ∨ ∃ g lb, d.nx = .func (.func g) #[] lb ∧ (∀ args w, (callFunc g args).run Try.prog w = .ok (.enter g args) w) ∧
    (∀ W x l e, d.I W (x :: l) e → Calls Try.prog g lb W fun en W' => en = .returned (.tuple #[.agg #[.string x.key, .string x.val, .bool x.gone], .bool true, .int .i64 0]) ∧ d.I W' l e ∧ Fr d.F W W') ∧
    (∀ W e, d.I W [] e → Calls Try.prog g lb W fun en W' => en = .returned (.tuple #[.agg #[.string ⟨#[]⟩, .string ⟨#[]⟩, .bool false], .bool false, .int .i64 e]) ∧ Fr d.F W W')
/-- A cursor that has l left, then e; pk: it has looked ahead. -/
structure Cst (d : CD) (W : World) (l : List En) (e : Int) (pk : Bool) : Prop where
  lt : ∀ k, d.F k → k < W.heap.size
  st : ∃ h hv f last bg dn, Blk W d.cb (cur d.nx h hv f last bg dn) 57 ∧
    ((hv = false ∧ dn = false ∧ f = 0 ∧ pk = false ∧ ∃ l0 e0, d.I W l0 e0 ∧ told (if bg then some last else none) l0 e0 = (l, e)) ∨
      (hv = true ∧ dn = false ∧ f = 0 ∧ pk = true ∧ bg = true ∧ last = h.key ∧ ∃ l0 e0 l', d.I W l0 e0 ∧ told (some last) l0 e0 = (l', e) ∧ l = h :: l') ∨
      (hv = false ∧ dn = true ∧ f = e ∧ pk = true ∧ l = []))
theorem Cst.blk {d : CD} {W : World} {l : List En} {e : Int} {pk : Bool} (h : Cst d W l e pk) : ∃ cs, Blk W d.cb cs 57 := by
  obtain ⟨_, _, _, _, _, _, hb, _⟩ := h.st
  exact ⟨_, hb⟩
theorem Cst.foot_lt {d : CD} {W : World} {l : List En} {e : Int} {pk : Bool} (h : Cst d W l e pk) : ∀ k, d.foot k → k < W.heap.size := by
  rintro k (rfl | hk)
  · obtain ⟨_, hb⟩ := h.blk
    exact hb.lt
  · exact h.lt k hk
theorem Cst.fr {S : Nat → Prop} {d : CD} (hd : SrcOk d) {W W' : World} {l : List En} {e : Int} {pk : Bool} (h : Cst d W l e pk) (hf : Fr S W W') (hS : ∀ k, d.foot k → ¬ S k) : Cst d W' l e pk := by
  obtain ⟨hl, h0, hv, f, last, bg, dn, hb, hc⟩ := h
  refine ⟨fun k hk => Nat.lt_of_lt_of_le (hl k hk) hf.size, h0, hv, f, last, bg, dn, hf.blk hb (hS _ (.inl rfl)), ?_⟩
  have hS' : ∀ k, d.F k → ¬ S k := fun k hk => hS k (.inr hk)
  rcases hc with ⟨a1, a2, a3, a4, l0, e0, a5, a6⟩ | ⟨a1, a2, a3, a4, a5, a6, l0, e0, l', a7, a8⟩ | hc
  · exact .inl ⟨a1, a2, a3, a4, l0, e0, hd.fr a5 hf hS', a6⟩
  · exact .inr (.inl ⟨a1, a2, a3, a4, a5, a6, l0, e0, l', hd.fr a7 hf hS', a8⟩)
  · exact .inr (.inr hc)
theorem Cst.new {d : CD} (hd : SrcOk d) {W W' : World} {l : List En} {e : Int} {pk : Bool} (h : Cst d W l e pk) (hf : Fr (fun _ => False) W W') : Cst d W' l e pk := h.fr hd hf (fun _ _ => id)
end Go.Proofs.Ytcpnjlnphjnhnaa

/- Cursors that are merged: words. Conditions: those of the lemmas. -/
import Derived.Test.YtcpnjlnphjnhnaaIs
namespace Go.Proofs.Ytcpnjlnphjnhnaa
open Go.RowKit
theorem Cst.peek {d : CD} {W : World} {x : En} {l : List En} {e : Int} (h : Cst d W (x :: l) e true) : Blk W d.cb (cur d.nx x true 0 x.key true false) 57 := by
  obtain ⟨hl, h0, hv, f, last, bg, dn, hc, hcase⟩ := h
  rcases hcase with ⟨_, _, _, a4, _⟩ | ⟨rfl, rfl, rfl, _, rfl, rfl, l0, e0, l', _, _, hxl⟩ | ⟨_, _, _, _, a5⟩
  · cases a4
  · injection hxl with h1 h2
    subst h1
    exact hc
  · cases a5
theorem Cst.done {d : CD} {W : World} {e : Int} (h : Cst d W [] e true) : ∃ h0 last bg, Blk W d.cb (cur d.nx h0 false e last bg true) 57 := by
  obtain ⟨hl, h0, hv, f, last, bg, dn, hc, hcase⟩ := h
  rcases hcase with ⟨_, _, _, a4, _⟩ | ⟨_, _, _, _, _, _, l0, e0, l', _, _, hxl⟩ | ⟨rfl, rfl, rfl, _, _⟩
  · cases a4
  · cases hxl
  · exact ⟨h0, last, bg, hc⟩
theorem Cst.take {d : CD} (hd : SrcOk d) {W : World} {x : En} {l : List En} {e : Int} (h : Cst d W (x :: l) e true) : Cst d (W.setCell ⟨d.cb, 4, none⟩ (.bool false)) l e false := by
  obtain ⟨hl, h0, hv, f, last, bg, dn, hc, hcase⟩ := h
  have g : Fr (fun k => k = d.cb) W (W.setCell ⟨d.cb, 4, none⟩ (.bool false)) := (Fr.refl _ W).set1 _ _
  rcases hcase with ⟨_, _, _, a4, _⟩ | ⟨rfl, rfl, rfl, _, rfl, rfl, l0, e0, l', hI, ht, hxl⟩ | ⟨_, _, _, _, a5⟩
  · cases a4
  · injection hxl with h1 h2
    subst h1
    subst h2
    exact ⟨fun k hk => Nat.lt_of_lt_of_le (hl k hk) g.size, x, false, 0, x.key, true, false, hc.set 4 (.bool false), .inl ⟨rfl, rfl, rfl, rfl, l0, e0, hd.fr hI g (fun k hk hh => hd.ne (by rw [← hh]; exact hk)), ht⟩⟩
  · cases a5
def ptrC : Option CD → Value
  | none => .pointer none
  | some d => .pointer (some ⟨d.cb, 0, none⟩)
def ofoot : Option CD → Nat → Prop
  | none, _ => False
  | some d, k => d.foot k
def OSt (c : Option CD) (W : World) (r : Rw) (pk : Bool) : Prop := match c with
  | none => r = ([], 0)
  | some d => Cst d W r.1 r.2 pk
structure MgS (ab : Nat) (v : Value) (cs : List (Option CD)) : Prop where
  src : ∀ d, some d ∈ cs → SrcOk d
  dj : ∀ (i j : Nat) (c c' : Option CD), cs[i]? = some c → cs[j]? = some c' → i ≠ j → ∀ k, ofoot c k → ¬ ofoot c' k
  ab : ∀ c ∈ cs, ¬ ofoot c ab
  row : ∀ k, v.ownBlock = some k → ∀ c ∈ cs, ¬ ofoot c k
def mgF (ab : Nat) (v : Value) (cs : List (Option CD)) (k : Nat) : Prop := k = ab ∨ v.ownBlock = some k ∨ ∃ c ∈ cs, ofoot c k
/-- Each cursor has its row; K tells which have looked ahead. -/
def Sts (cs : List (Option CD)) (rs : List Rw) (W : World) (K : Nat → Bool → Prop) : Prop := ∀ (i : Nat) (c : Option CD) (r : Rw), cs[i]? = some c → rs[i]? = some r → ∃ pk, K i pk ∧ OSt c W r pk
structure MgI (ab : Nat) (v : Value) (cs : List (Option CD)) (W : World) (l : List En) (e : Int) : Prop where
  blk : Blk W ab [v] 39
  row : Row W 29 v (cs.map ptrC)
  few : cs.length ≤ 1000000
  lt : ∀ c ∈ cs, ∀ k, ofoot c k → k < W.heap.size
  st : ∃ rs : List Rw, rs.length = cs.length ∧ Sts cs rs W (fun _ _ => True) ∧ Mg rs l e
theorem OSt.fr {c : Option CD} (hc : ∀ d, c = some d → SrcOk d) {S : Nat → Prop} {W W' : World} {r : Rw} {pk : Bool} (h : OSt c W r pk) (hf : Fr S W W') (hS : ∀ k, ofoot c k → ¬ S k) : OSt c W' r pk := by
  cases c with
  | none => exact h
  | some d => exact Cst.fr (hc d rfl) h hf hS
theorem Sts.fr {ab : Nat} {v : Value} {cs : List (Option CD)} (hs : MgS ab v cs) {rs : List Rw} {K : Nat → Bool → Prop} {S : Nat → Prop} {W W' : World} (h : Sts cs rs W K) (hf : Fr S W W') (hS : ∀ c ∈ cs, ∀ k, ofoot c k → ¬ S k) : Sts cs rs W' K := by
  intro i c r hi hr
  obtain ⟨pk, hk, ho⟩ := h i c r hi hr
  have hm := List.mem_of_getElem? hi
  exact ⟨pk, hk, ho.fr (fun d e => hs.src d (by rw [← e]; exact hm)) hf (hS c hm)⟩
/-- One cursor's state changes. -/
theorem Sts.one {ab : Nat} {v : Value} {cs : List (Option CD)} (hs : MgS ab v cs) {rs rs' : List Rw} {K K' : Nat → Bool → Prop} {j : Nat} {c : Option CD} (hj : cs[j]? = some c) {W W' : World} (h : Sts cs rs W K) (hf : Fr (ofoot c) W W')
    (hr : ∀ i, i ≠ j → rs'[i]? = rs[i]?) (hK : ∀ i pk, i ≠ j → K i pk → K' i pk) (hn : ∀ r, rs'[j]? = some r → ∃ pk, K' j pk ∧ OSt c W' r pk) : Sts cs rs' W' K' := by
  intro i c' r hi hr'
  by_cases e : i = j
  · subst e
    rw [hj] at hi
    injection hi with hi
    subst hi
    exact hn r hr'
  · rw [hr i e] at hr'
    obtain ⟨pk, hk, ho⟩ := h i c' r hi hr'
    have hm := List.mem_of_getElem? hi
    exact ⟨pk, hK i pk e hk, ho.fr (fun d e => hs.src d (by rw [← e]; exact hm)) hf (fun k h1 h2 => hs.dj i j c' c hi hj e k h1 h2)⟩
theorem MgI.fr {ab : Nat} {v : Value} {cs : List (Option CD)} (hs : MgS ab v cs) {S : Nat → Prop} {W W' : World} {l : List En} {e : Int} (h : MgI ab v cs W l e) (hf : Fr S W W') (hS : ∀ k, mgF ab v cs k → ¬ S k) : MgI ab v cs W' l e := by
  obtain ⟨h1, h2, h3, h4, rs, h5, h6, h7⟩ := h
  exact ⟨hf.blk h1 (hS _ (.inl rfl)), h2.fr hf (fun k hk => hS k (.inr (.inl hk))), h3, fun c hc k hk => Nat.lt_of_lt_of_le (h4 c hc k hk) hf.size, rs, h5, h6.fr hs hf (fun c hc k hk => hS k (.inr (.inr ⟨c, hc, hk⟩))), h7⟩
/-! ### rows -/
theorem errOf_app (a b : List Rw) (h : errOf a = none) : errOf (a ++ b) = errOf b := by
  induction a with
  | nil => rfl
  | cons r a ih =>
    rw [errOf] at h
    split at h
    · cases h
    · rename_i hn
      rw [List.cons_append, errOf, if_neg hn]
      exact ih h
theorem take_succ {α : Type} {l : List α} {j : Nat} {x : α} (h : l[j]? = some x) : l.take (j + 1) = l.take j ++ [x] := by
  rw [List.take_add_one, h]
  rfl
theorem errOf_take {rs : List Rw} {j : Nat} {r : Rw} (h : rs[j]? = some r) (h0 : errOf (rs.take j) = none) : errOf (rs.take (j + 1)) = if r.1.isEmpty && r.2 != 0 then some r.2 else none := by
  rw [take_succ h, errOf_app _ _ h0]
  rfl
theorem errOf_some {rs : List Rw} {j : Nat} {r : Rw} (h : rs[j]? = some r) (h0 : errOf (rs.take j) = none) (h1 : r.1 = []) (h2 : r.2 ≠ 0) : errOf rs = some r.2 := by
  have e : rs = rs.take j ++ r :: rs.drop (j + 1) := by
    have := List.getElem?_eq_some_iff.1 h
    obtain ⟨hl, he⟩ := this
    rw [← he, ← List.drop_eq_getElem_cons hl, List.take_append_drop]
  rw [e, errOf_app _ _ h0, errOf, if_pos (by simp [h1, h2])]
theorem bestOf_take {rs : List Rw} {j : Nat} {r : Rw} (h : rs[j]? = some r) : bestOf (rs.take (j + 1)) = better (bestOf (rs.take j)) r := by
  unfold bestOf
  rw [take_succ h, List.foldl_append]
  rfl
end Go.Proofs.Ytcpnjlnphjnhnaa

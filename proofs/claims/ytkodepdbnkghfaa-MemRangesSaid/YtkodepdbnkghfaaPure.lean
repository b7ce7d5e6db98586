/- Balanced trees of keys and values, in plain Lean: what Put, Without, Get and the walk over a tree answer. Conditions: those of the lemmas. -/

import Derived.Lib.Strings
namespace Go.Proofs.Ytkodepdbnkghfaa
/-! ### Keys -/
theorem bytesLess_lt : ∀ (x y : List UInt8), Op.bytesLess x y = decide (x < y)
  | [], [] => by simp [Op.bytesLess]
  | _ :: _, [] => by simp [Op.bytesLess]
  | [], _ :: _ => by simp [Op.bytesLess]
  | a :: x, b :: y => by
    rw [Op.bytesLess, bytesLess_lt x y]
    simp only [List.cons_lt_cons_iff]
    by_cases h1 : a < b <;> by_cases h2 : a = b <;> by_cases h3 : x < y <;> simp [h1, h2, h3]
def sLt (a b : ByteArray) : Bool := Op.bytesLess a.toList b.toList
theorem sLt_iff (a b : ByteArray) : sLt a b = true ↔ a.data.toList < b.data.toList := by
  unfold sLt
  rw [bytesLess_lt, Lib.toList_data, Lib.toList_data]
  simp
theorem sLt_irrefl (a : ByteArray) : sLt a a = false := by
  have h : ¬ sLt a a = true := by rw [sLt_iff]; exact List.lt_irrefl _
  simpa using h
theorem sLt_trans {a b c : ByteArray} (h : sLt a b = true) (k : sLt b c = true) : sLt a c = true := by
  rw [sLt_iff] at *
  exact List.lt_trans h k
theorem sLt_asymm {a b : ByteArray} (h : sLt a b = true) : sLt b a = false := by
  have h' : ¬ sLt b a = true := fun k => by
    have := sLt_trans h k
    rw [sLt_irrefl] at this
    cases this
  simpa using h'
theorem sLt_total {a b : ByteArray} (hne : a ≠ b) (h : sLt a b = false) : sLt b a = true := by
  rw [sLt_iff]
  have h' : ¬ a.data.toList < b.data.toList := by rw [← sLt_iff, h]; simp
  have h2 : b.data.toList ≤ a.data.toList := List.not_lt.1 h'
  rcases List.le_iff_lt_or_eq.1 h2 with h3 | h3
  · exact h3
  · exact absurd (ByteArray.ext (Array.toList_inj.1 h3.symm)) hne
theorem sLt_ne {a b : ByteArray} (h : sLt a b = true) : a ≠ b := by
  rintro rfl
  rw [sLt_irrefl] at h
  cases h
/-! ### Sorted lists of pairs -/
variable {V : Type}
def Srt (l : List (ByteArray × V)) : Prop := l.Pairwise fun a b => sLt a.1 b.1 = true
def lput : List (ByteArray × V) → ByteArray → V → List (ByteArray × V)
  | [], k, v => [(k, v)]
  | p :: l, k, v => if sLt k p.1 then (k, v) :: p :: l else if sLt p.1 k then p :: lput l k v else (k, v) :: l
def lwo (l : List (ByteArray × V)) (k : ByteArray) : List (ByteArray × V) := l.filter fun p => decide (p.1 ≠ k)
def lget (l : List (ByteArray × V)) (k : ByteArray) : Option V := (l.find? fun p => decide (p.1 = k)).map Prod.snd
def lfrom (l : List (ByteArray × V)) (k : ByteArray) : List (ByteArray × V) := l.filter fun p => !sLt p.1 k
theorem Srt.app {a b : List (ByteArray × V)} (h : Srt (a ++ b)) : Srt a ∧ Srt b ∧ ∀ p ∈ a, ∀ q ∈ b, sLt p.1 q.1 = true := List.pairwise_append.1 h
theorem lput_left {a b : List (ByteArray × V)} {p : ByteArray × V} {k : ByteArray} {v : V} (h : sLt k p.1 = true) : lput (a ++ p :: b) k v = lput a k v ++ p :: b := by
  induction a with
  | nil => simp [lput, h]
  | cons q a ih =>
    simp only [List.cons_append, lput]
    split
    · rfl
    · split
      · rw [ih]; rfl
      · rfl
theorem lput_right {a b : List (ByteArray × V)} {p : ByteArray × V} {k : ByteArray} {v : V} (ha : ∀ q ∈ a, sLt q.1 p.1 = true) (h : sLt p.1 k = true) : lput (a ++ p :: b) k v = a ++ p :: lput b k v := by
  induction a with
  | nil =>
    simp only [List.nil_append, lput]
    rw [sLt_asymm h, if_neg (by simp), if_pos h]
  | cons q a ih =>
    have hq : sLt q.1 k = true := sLt_trans (ha q (by simp)) h
    simp only [List.cons_append, lput]
    rw [sLt_asymm hq, if_neg (by simp), if_pos hq, ih (fun r hr => ha r (by simp [hr]))]
theorem lput_here {a b : List (ByteArray × V)} {k : ByteArray} {w v : V} (ha : ∀ q ∈ a, sLt q.1 k = true) : lput (a ++ (k, w) :: b) k v = a ++ (k, v) :: b := by
  induction a with
  | nil => simp [lput, sLt_irrefl]
  | cons q a ih =>
    have hq : sLt q.1 k = true := ha q (by simp)
    simp only [List.cons_append, lput]
    rw [sLt_asymm hq, if_neg (by simp), if_pos hq, ih (fun r hr => ha r (by simp [hr]))]
theorem lput_mem {l : List (ByteArray × V)} {k : ByteArray} {v : V} {q : ByteArray × V} (h : q ∈ lput l k v) : q = (k, v) ∨ q ∈ l := by
  induction l with
  | nil => simp [lput] at h; exact .inl h
  | cons p l ih =>
    simp only [lput] at h
    split at h
    · rcases List.mem_cons.1 h with h | h
      · exact .inl h
      · exact .inr h
    · split at h
      · rcases List.mem_cons.1 h with h | h
        · exact .inr (by simp [h])
        · rcases ih h with h | h
          · exact .inl h
          · exact .inr (by simp [h])
      · rcases List.mem_cons.1 h with h | h
        · exact .inl h
        · exact .inr (by simp [h])
theorem lput_srt {l : List (ByteArray × V)} (h : Srt l) (k : ByteArray) (v : V) : Srt (lput l k v) := by
  induction l with
  | nil => simp [lput, Srt]
  | cons p l ih =>
    have h1 := (List.pairwise_cons.1 h).1
    have h2 : Srt l := (List.pairwise_cons.1 h).2
    simp only [lput]
    split
    · rename_i c
      refine List.pairwise_cons.2 ⟨fun q hq => ?_, h⟩
      rcases List.mem_cons.1 hq with rfl | hq
      · exact c
      · exact sLt_trans c (h1 q hq)
    · split
      · rename_i c
        refine List.pairwise_cons.2 ⟨fun q hq => ?_, ih h2⟩
        rcases lput_mem hq with rfl | hq
        · exact c
        · exact h1 q hq
      · rename_i c1 c2
        have e : k = p.1 := by
          by_cases e : k = p.1
          · exact e
          · exact absurd (sLt_total e (by simpa using c1)) c2
        subst e
        exact List.pairwise_cons.2 ⟨fun q hq => h1 q hq, h2⟩
theorem lput_len {l : List (ByteArray × V)} {k : ByteArray} {v : V} : l.length ≤ (lput l k v).length ∧ (lput l k v).length ≤ l.length + 1 ∧ 1 ≤ (lput l k v).length := by
  induction l with
  | nil => simp [lput]
  | cons p l ih =>
    simp only [lput]
    split
    · simp
    · split
      · simp only [List.length_cons]; omega
      · simp
theorem lwo_srt {l : List (ByteArray × V)} (h : Srt l) (k : ByteArray) : Srt (lwo l k) := h.filter _
theorem lwo_none {l : List (ByteArray × V)} {k : ByteArray} (h : ∀ p ∈ l, p.1 ≠ k) : lwo l k = l := List.filter_eq_self.2 fun p hp => by simpa using h p hp
theorem lwo_app (a b : List (ByteArray × V)) (k : ByteArray) : lwo (a ++ b) k = lwo a k ++ lwo b k := List.filter_append ..
theorem lwo_cons (p : ByteArray × V) (b : List (ByteArray × V)) (k : ByteArray) : lwo (p :: b) k = if p.1 = k then lwo b k else p :: lwo b k := by
  unfold lwo
  by_cases h : p.1 = k <;> simp [List.filter_cons, h]
theorem lget_none {l : List (ByteArray × V)} {k : ByteArray} (h : ∀ p ∈ l, p.1 ≠ k) : lget l k = none := by
  unfold lget
  rw [List.find?_eq_none.2 (fun p hp => by simpa using h p hp)]
  rfl
theorem lget_app_left {a b : List (ByteArray × V)} {k : ByteArray} (h : ∀ p ∈ b, p.1 ≠ k) : lget (a ++ b) k = lget a k := by
  unfold lget
  have hb : b.find? (fun p => decide (p.1 = k)) = none := List.find?_eq_none.2 (fun p hp => by simpa using h p hp)
  rw [List.find?_append, hb]
  simp
theorem lget_app_right {a b : List (ByteArray × V)} {k : ByteArray} (h : ∀ p ∈ a, p.1 ≠ k) : lget (a ++ b) k = lget b k := by
  unfold lget
  have ha : a.find? (fun p => decide (p.1 = k)) = none := List.find?_eq_none.2 (fun p hp => by simpa using h p hp)
  rw [List.find?_append, ha]
  simp
/-! ### Trees -/
inductive Tr (V : Type) where
  | nil : Tr V
  | node (l : Tr V) (k : ByteArray) (v : V) (r : Tr V) : Tr V
namespace Tr
def ht : Tr V → Nat
  | .nil => 0
  | .node l _ _ r => 1 + max l.ht r.ht
def cnt : Tr V → Nat
  | .nil => 0
  | .node l _ _ r => 1 + l.cnt + r.cnt
def toL : Tr V → List (ByteArray × V)
  | .nil => []
  | .node l k v r => l.toL ++ (k, v) :: r.toL
def left : Tr V → Tr V
  | .nil => .nil
  | .node l _ _ _ => l
def right : Tr V → Tr V
  | .nil => .nil
  | .node _ _ _ r => r
def balL (l : Tr V) (k : ByteArray) (v : V) (r : Tr V) : Tr V :=
  match l with
  | .nil => .nil
  | .node ll lk lv lr => if lr.ht ≤ ll.ht then .node ll lk lv (.node lr k v r) else
    match lr with
    | .nil => .nil
    | .node ml mk mv mr => .node (.node ll lk lv ml) mk mv (.node mr k v r)
def balR (l : Tr V) (k : ByteArray) (v : V) (r : Tr V) : Tr V :=
  match r with
  | .nil => .nil
  | .node rl rk rv rr => if rl.ht ≤ rr.ht then .node (.node l k v rl) rk rv rr else
    match rl with
    | .nil => .nil
    | .node ml mk mv mr => .node (.node l k v ml) mk mv (.node mr rk rv rr)
def bal (l : Tr V) (k : ByteArray) (v : V) (r : Tr V) : Tr V :=
  if r.ht + 1 < l.ht then balL l k v r else if l.ht + 1 < r.ht then balR l k v r else .node l k v r
def put : Tr V → ByteArray → V → Tr V
  | .nil, k, v => .node .nil k v .nil
  | .node l k' v' r, k, v => if sLt k k' then bal (l.put k v) k' v' r else if sLt k' k then bal l k' v' (r.put k v) else .node l k v r
def first : Tr V → Option (ByteArray × V)
  | .nil => none
  | .node .nil k v _ => some (k, v)
  | .node l _ _ _ => l.first
def without : Tr V → ByteArray → Tr V
  | .nil, _ => .nil
  | .node l k' v' r, k => if sLt k k' then bal (l.without k) k' v' r else if sLt k' k then bal l k' v' (r.without k) else
    match r.first with
    | none => l
    | some p => bal l p.1 p.2 (r.without p.1)
theorem cnt_len : ∀ t : Tr V, t.cnt = t.toL.length
  | .nil => rfl
  | .node l k v r => by simp only [cnt, toL, List.length_append, List.length_cons, cnt_len l, cnt_len r]; omega
theorem ht_cnt : ∀ t : Tr V, t.ht ≤ t.cnt
  | .nil => Nat.le_refl _
  | .node l k v r => by have := ht_cnt l; have := ht_cnt r; simp only [ht, cnt]; omega
theorem ht_zero : ∀ t : Tr V, t.ht = 0 → t = .nil
  | .nil, _ => rfl
  | .node l k v r, h => by simp only [ht] at h; omega
theorem bal_toL (l : Tr V) (k : ByteArray) (v : V) (r : Tr V) : (bal l k v r).toL = l.toL ++ (k, v) :: r.toL := by
  unfold bal
  split
  · rename_i h
    cases l with
    | nil => simp only [ht] at h; omega
    | node ll lk lv lr =>
      simp only [balL]
      split
      · simp [toL]
      · rename_i h2
        cases lr with
        | nil => simp only [ht] at h2; omega
        | node ml mk mv mr => simp [toL]
  · split
    · rename_i h
      cases r with
      | nil => simp only [ht] at h; omega
      | node rl rk rv rr =>
        simp only [balR]
        split
        · simp [toL]
        · rename_i h2
          cases rl with
          | nil => simp only [ht] at h2; omega
          | node ml mk mv mr => simp [toL]
    · simp [toL]
theorem bal_cnt (l : Tr V) (k : ByteArray) (v : V) (r : Tr V) : (bal l k v r).cnt = 1 + l.cnt + r.cnt := by
  rw [cnt_len, bal_toL, cnt_len, cnt_len]
  simp only [List.length_append, List.length_cons]
  omega
theorem put_toL : ∀ (t : Tr V) (k : ByteArray) (v : V), Srt t.toL → (t.put k v).toL = lput t.toL k v
  | .nil, k, v, _ => rfl
  | .node l k' v' r, k, v, h => by
    obtain ⟨h1, h2, h3⟩ := Srt.app h
    have h4 : Srt r.toL := (List.pairwise_cons.1 h2).2
    have hl : ∀ q ∈ l.toL, sLt q.1 k' = true := fun q hq => h3 q hq (k', v') (by simp)
    simp only [put]
    split
    · rename_i c
      rw [bal_toL, put_toL l k v h1, toL, lput_left c]
    · rename_i c1
      split
      · rename_i c
        rw [bal_toL, put_toL r k v h4, toL, lput_right hl c]
      · rename_i c2
        have e : k = k' := by
          by_cases e : k = k'
          · exact e
          · exact absurd (sLt_total e (by simpa using c1)) c2
        subst e
        rw [toL, toL, lput_here hl]
theorem put_cnt : ∀ (t : Tr V) (k : ByteArray) (v : V), (t.put k v).cnt ≤ t.cnt + 1
  | .nil, k, v => by simp [put, cnt]
  | .node l k' v' r, k, v => by
    have h1 := put_cnt l k v
    have h2 := put_cnt r k v
    simp only [put]
    split
    · rw [bal_cnt]; simp only [cnt]; omega
    · split
      · rw [bal_cnt]; simp only [cnt]; omega
      · simp only [cnt]; omega
theorem first_toL : ∀ t : Tr V, t.first = t.toL.head?
  | .nil => rfl
  | .node .nil k v _ => rfl
  | .node (.node ll lk lv lr) k v r => by
    rw [first]
    · rw [first_toL (.node ll lk lv lr)]
      simp [toL]
    · simp
theorem wo_toL : ∀ (t : Tr V) (k : ByteArray), Srt t.toL → (t.without k).toL = lwo t.toL k
  | .nil, k, _ => rfl
  | .node l k' v' r, k, h => by
    obtain ⟨h1, h2, h3⟩ := Srt.app h
    have h4 : Srt r.toL := (List.pairwise_cons.1 h2).2
    have h5 : ∀ q ∈ r.toL, sLt k' q.1 = true := (List.pairwise_cons.1 h2).1
    have hl : ∀ q ∈ l.toL, sLt q.1 k' = true := fun q hq => h3 q hq (k', v') (by simp)
    simp only [without]
    split
    · rename_i c
      rw [bal_toL, wo_toL l k h1, toL, lwo_app, lwo_cons, if_neg (fun e => by rw [show k' = k from e, sLt_irrefl] at c; cases c), lwo_none (l := r.toL)]
      intro p hp e
      have := sLt_trans c (h5 p hp)
      rw [e, sLt_irrefl] at this
      cases this
    · rename_i c1
      split
      · rename_i c
        rw [bal_toL, wo_toL r k h4, toL, lwo_app, lwo_cons, if_neg (fun e => by rw [show k' = k from e, sLt_irrefl] at c; cases c), lwo_none (l := l.toL)]
        intro p hp e
        have := sLt_trans (hl p hp) c
        rw [e, sLt_irrefl] at this
        cases this
      · rename_i c2
        have e : k = k' := by
          by_cases e : k = k'
          · exact e
          · exact absurd (sLt_total e (by simpa using c1)) c2
        subst e
        have e1 : lwo l.toL k = l.toL := lwo_none fun p hp e => by have := hl p hp; rw [e, sLt_irrefl] at this; cases this
        have e2 : lwo r.toL k = r.toL := lwo_none fun p hp e => by have := h5 p hp; rw [e, sLt_irrefl] at this; cases this
        rw [toL, lwo_app, lwo_cons, if_pos rfl, e1, e2]
        have hf := first_toL r
        cases hr : r.first with
        | none =>
          rw [hr] at hf
          have : r.toL = [] := by simpa using hf.symm
          rw [this]
          simp
        | some p =>
          rw [hr] at hf
          obtain ⟨tl, htl⟩ : ∃ tl, r.toL = p :: tl := by
            cases hq : r.toL with
            | nil => rw [hq] at hf; cases hf
            | cons q tl => rw [hq] at hf; simp at hf; subst hf; exact ⟨tl, rfl⟩
          simp only
          rw [bal_toL, wo_toL r p.1 h4, htl, lwo_cons, if_pos rfl, lwo_none]
          intro q hq e
          have := (List.pairwise_cons.1 (htl ▸ h4 : Srt (p :: tl))).1 q hq
          rw [e, sLt_irrefl] at this
          cases this
theorem wo_cnt : ∀ (t : Tr V) (k : ByteArray), (t.without k).cnt ≤ t.cnt
  | .nil, k => by simp [without, cnt]
  | .node l k' v' r, k => by
    have h1 := wo_cnt l k
    have h2 := wo_cnt r k
    simp only [without]
    split
    · rw [bal_cnt]; simp only [cnt]; omega
    · split
      · rw [bal_cnt]; simp only [cnt]; omega
      · cases hr : r.first with
        | none => simp only [cnt]; omega
        | some p =>
          simp only
          have h3 := wo_cnt r p.1
          rw [bal_cnt]
          simp only [cnt]
          omega
def get : Tr V → ByteArray → Option V
  | .nil, _ => none
  | .node l k' v' r, k => if k' = k then some v' else if sLt k k' then l.get k else r.get k
theorem get_toL : ∀ (t : Tr V) (k : ByteArray), Srt t.toL → t.get k = lget t.toL k
  | .nil, k, _ => rfl
  | .node l k' v' r, k, h => by
    obtain ⟨h1, h2, h3⟩ := Srt.app h
    have h4 : Srt r.toL := (List.pairwise_cons.1 h2).2
    have h5 : ∀ q ∈ r.toL, sLt k' q.1 = true := (List.pairwise_cons.1 h2).1
    have hl : ∀ q ∈ l.toL, sLt q.1 k' = true := fun q hq => h3 q hq (k', v') (by simp)
    simp only [get]
    split
    · rename_i e
      subst e
      rw [toL, lget_app_right (fun p hp e => by have := hl p hp; rw [e, sLt_irrefl] at this; cases this)]
      simp [lget]
    · rename_i hne
      split
      · rename_i c
        rw [toL, get_toL l k h1, lget_app_left]
        intro p hp e
        rcases List.mem_cons.1 hp with rfl | hp
        · exact hne e
        · have := sLt_trans c (h5 p hp)
          rw [e, sLt_irrefl] at this
          cases this
      · rename_i c
        have c' := sLt_total (a := k) (b := k') (fun e => hne e.symm) (by simpa using c)
        rw [toL, get_toL r k h4, show l.toL ++ (k', v') :: r.toL = (l.toL ++ [(k', v')]) ++ r.toL by simp, lget_app_right]
        intro p hp e
        rcases List.mem_append.1 hp with hp | hp
        · have := sLt_trans (hl p hp) c'
          rw [e, sLt_irrefl] at this
          cases this
        · rw [List.mem_singleton.1 hp] at e
          exact hne e
/-! ### Balance -/
def Avl : Tr V → Prop
  | .nil => True
  | .node l _ _ r => l.Avl ∧ r.Avl ∧ l.ht ≤ r.ht + 1 ∧ r.ht ≤ l.ht + 1
theorem bal_avl {l : Tr V} {k : ByteArray} {v : V} {r : Tr V} (hl : l.Avl) (hr : r.Avl) (h1 : l.ht ≤ r.ht + 2) (h2 : r.ht ≤ l.ht + 2) :
    (bal l k v r).Avl ∧ max l.ht r.ht ≤ (bal l k v r).ht ∧ (bal l k v r).ht ≤ 1 + max l.ht r.ht ∧ (l.ht ≤ r.ht + 1 → r.ht ≤ l.ht + 1 → (bal l k v r).ht = 1 + max l.ht r.ht) := by
  unfold bal
  split
  · rename_i h
    cases l with
    | nil => simp only [ht] at h; omega
    | node ll lk lv lr =>
      obtain ⟨a1, a2, a3, a4⟩ := hl
      simp only [balL]
      split
      · simp only [ht] at *
        refine ⟨⟨a1, ⟨a2, hr, by omega, by omega⟩, by simp only [ht]; omega, by simp only [ht]; omega⟩, by omega, by omega, by omega⟩
      · rename_i h3
        cases lr with
        | nil => simp only [ht] at h3; omega
        | node ml mk mv mr =>
          obtain ⟨b1, b2, b3, b4⟩ := a2
          simp only [ht] at *
          refine ⟨⟨⟨a1, b1, by omega, by omega⟩, ⟨b2, hr, by omega, by omega⟩, by simp only [ht]; omega, by simp only [ht]; omega⟩, by omega, by omega, by omega⟩
  · split
    · rename_i h
      cases r with
      | nil => simp only [ht] at h; omega
      | node rl rk rv rr =>
        obtain ⟨a1, a2, a3, a4⟩ := hr
        simp only [balR]
        split
        · simp only [ht] at *
          refine ⟨⟨⟨hl, a1, by omega, by omega⟩, a2, by simp only [ht]; omega, by simp only [ht]; omega⟩, by omega, by omega, by omega⟩
        · rename_i h3
          cases rl with
          | nil => simp only [ht] at h3; omega
          | node ml mk mv mr =>
            obtain ⟨b1, b2, b3, b4⟩ := a1
            simp only [ht] at *
            refine ⟨⟨⟨hl, b1, by omega, by omega⟩, ⟨b2, a2, by omega, by omega⟩, by simp only [ht]; omega, by simp only [ht]; omega⟩, by omega, by omega, by omega⟩
    · simp only [ht]
      exact ⟨⟨hl, hr, by omega, by omega⟩, by omega, by omega, fun _ _ => trivial⟩
theorem put_avl : ∀ (t : Tr V) (k : ByteArray) (v : V), t.Avl → (t.put k v).Avl ∧ t.ht ≤ (t.put k v).ht ∧ (t.put k v).ht ≤ t.ht + 1
  | .nil, k, v, _ => ⟨⟨trivial, trivial, by simp, by simp⟩, by simp [put, ht], by simp [put, ht]⟩
  | .node l k' v' r, k, v, h => by
    obtain ⟨h1, h2, h3, h4⟩ := h
    simp only [put]
    split
    · obtain ⟨p1, p2, p3⟩ := put_avl l k v h1
      obtain ⟨q1, q2, q3, q4⟩ := bal_avl (k := k') (v := v') p1 h2 (by omega) (by omega)
      simp only [ht] at *
      refine ⟨q1, ?_, by omega⟩
      by_cases c : (l.put k v).ht ≤ r.ht + 1
      · have := q4 c (by omega); omega
      · omega
    · split
      · obtain ⟨p1, p2, p3⟩ := put_avl r k v h2
        obtain ⟨q1, q2, q3, q4⟩ := bal_avl (k := k') (v := v') h1 p1 (by omega) (by omega)
        simp only [ht] at *
        refine ⟨q1, ?_, by omega⟩
        by_cases c : (r.put k v).ht ≤ l.ht + 1
        · have := q4 (by omega) c; omega
        · omega
      · exact ⟨⟨h1, h2, h3, h4⟩, by simp [ht], by simp only [ht]; omega⟩
theorem wo_avl : ∀ (t : Tr V) (k : ByteArray), t.Avl → (t.without k).Avl ∧ (t.without k).ht ≤ t.ht ∧ t.ht ≤ (t.without k).ht + 1
  | .nil, k, _ => ⟨trivial, by simp [without], by simp [without]⟩
  | .node l k' v' r, k, h => by
    obtain ⟨h1, h2, h3, h4⟩ := h
    simp only [without]
    split
    · obtain ⟨p1, p2, p3⟩ := wo_avl l k h1
      obtain ⟨q1, q2, q3, q4⟩ := bal_avl (k := k') (v := v') p1 h2 (by omega) (by omega)
      simp only [ht] at *
      refine ⟨q1, by omega, ?_⟩
      by_cases c : r.ht ≤ (l.without k).ht + 1
      · have := q4 (by omega) c; omega
      · omega
    · split
      · obtain ⟨p1, p2, p3⟩ := wo_avl r k h2
        obtain ⟨q1, q2, q3, q4⟩ := bal_avl (k := k') (v := v') h1 p1 (by omega) (by omega)
        simp only [ht] at *
        refine ⟨q1, by omega, ?_⟩
        by_cases c : l.ht ≤ (r.without k).ht + 1
        · have := q4 c (by omega); omega
        · omega
      · cases hr : r.first with
        | none =>
          simp only
          have hf := first_toL r
          rw [hr] at hf
          have : r.toL = [] := by simpa using hf.symm
          have hz : r.ht = 0 := by have h5 := ht_cnt r; rw [cnt_len, this] at h5; simpa using h5
          simp only [ht]
          exact ⟨h1, by omega, by omega⟩
        | some p =>
          simp only
          obtain ⟨p1, p2, p3⟩ := wo_avl r p.1 h2
          obtain ⟨q1, q2, q3, q4⟩ := bal_avl (k := p.1) (v := p.2) h1 p1 (by omega) (by omega)
          simp only [ht] at *
          refine ⟨q1, by omega, ?_⟩
          by_cases c : l.ht ≤ (r.without p.1).ht + 1
          · have := q4 c (by omega); omega
          · omega
/-- The least number of nodes of a tree of this height. -/
def least : Nat → Nat
  | 0 => 0
  | 1 => 1
  | n + 2 => 1 + least n + least (n + 1)
theorem least_mono : ∀ n, least n ≤ least (n + 1)
  | 0 => by simp [least]
  | n + 1 => by rw [least]; omega
theorem least_le {m n : Nat} (h : m ≤ n) : least m ≤ least n := by
  induction n with
  | zero => rw [Nat.le_zero.1 h]; exact Nat.le_refl _
  | succ n ih =>
    rcases Nat.eq_or_lt_of_le h with rfl | h
    · exact Nat.le_refl _
    · exact Nat.le_trans (ih (by omega)) (least_mono n)
theorem least_cnt : ∀ t : Tr V, t.Avl → least t.ht ≤ t.cnt
  | .nil, _ => Nat.le_refl _
  | .node l k v r, h => by
    obtain ⟨h1, h2, h3, h4⟩ := h
    have a := least_cnt l h1
    have b := least_cnt r h2
    simp only [ht, cnt]
    rcases Nat.le_total l.ht r.ht with c | c
    · rw [Nat.max_eq_right c]
      cases hr : r.ht with
      | zero => simp only [least, Nat.max_self, Nat.add_zero]; omega
      | succ m =>
        rw [hr] at b h4
        have := least_le (m := m) (n := l.ht) (by omega)
        rw [show 1 + (m + 1) = m + 2 by omega, least]
        omega
    · rw [Nat.max_eq_left c]
      cases hl : l.ht with
      | zero => simp only [least, Nat.max_self, Nat.add_zero]; omega
      | succ m =>
        rw [hl] at a h3
        have := least_le (m := m) (n := r.ht) (by omega)
        rw [show 1 + (m + 1) = m + 2 by omega, least]
        omega
end Tr
/-! ### The walk over a tree: a stack of trees, the next one last -/
def remS : List (Tr V) → List (ByteArray × V)
  | [] => []
  | .nil :: st => remS st
  | .node _ k v r :: st => (k, v) :: r.toL ++ remS st
def spine : Tr V → List (Tr V) → List (Tr V)
  | .nil, st => st
  | .node l k v r, st => spine l (.node l k v r :: st)
theorem spine_rem : ∀ (t : Tr V) (st : List (Tr V)), remS (spine t st) = t.toL ++ remS st
  | .nil, st => rfl
  | .node l k v r, st => by rw [spine, spine_rem l, remS, Tr.toL]; simp
theorem lfrom_app (a b : List (ByteArray × V)) (k : ByteArray) : lfrom (a ++ b) k = lfrom a k ++ lfrom b k := List.filter_append ..
theorem lfrom_all {l : List (ByteArray × V)} {k : ByteArray} (h : ∀ p ∈ l, sLt p.1 k = false) : lfrom l k = l := List.filter_eq_self.2 fun p hp => by simpa using h p hp
theorem lfrom_no {l : List (ByteArray × V)} {k : ByteArray} (h : ∀ p ∈ l, sLt p.1 k = true) : lfrom l k = [] := List.filter_eq_nil_iff.2 fun p hp => by simpa using h p hp
theorem lfrom_cons (p : ByteArray × V) (b : List (ByteArray × V)) (k : ByteArray) : lfrom (p :: b) k = if sLt p.1 k then lfrom b k else p :: lfrom b k := by
  unfold lfrom
  by_cases h : sLt p.1 k = true <;> simp [List.filter_cons, h]
/-- One step down the tree: the key is ahead of the node's, or it is not. -/
theorem from_left {l : Tr V} {k' : ByteArray} {v : V} {r : Tr V} {k : ByteArray} {st : List (Tr V)} (h : Srt (Tr.node l k' v r).toL) (c : sLt k' k = false) :
    lfrom (Tr.node l k' v r).toL k ++ remS st = lfrom l.toL k ++ remS (Tr.node l k' v r :: st) := by
  obtain ⟨_, h2, _⟩ := Srt.app h
  rw [Tr.toL, lfrom_app, lfrom_cons, c, if_neg (by simp), lfrom_all (l := r.toL), remS]
  · simp
  · intro p hp
    have h5 : sLt k' p.1 = true := (List.pairwise_cons.1 h2).1 p hp
    by_cases h6 : sLt p.1 k = true
    · have := sLt_trans h5 h6
      rw [c] at this
      cases this
    · simpa using h6
theorem from_right {l : Tr V} {k' : ByteArray} {v : V} {r : Tr V} {k : ByteArray} (h : Srt (Tr.node l k' v r).toL) (c : sLt k' k = true) :
    lfrom (Tr.node l k' v r).toL k = lfrom r.toL k := by
  obtain ⟨_, _, h3⟩ := Srt.app h
  rw [Tr.toL, lfrom_app, lfrom_cons, if_pos c, lfrom_no (l := l.toL), List.nil_append]
  intro p hp
  exact sLt_trans (h3 p hp (k', v) (by simp)) c
theorem srt_left {l : Tr V} {k' : ByteArray} {v : V} {r : Tr V} (h : Srt (Tr.node l k' v r).toL) : Srt l.toL := (Srt.app h).1
theorem srt_right {l : Tr V} {k' : ByteArray} {v : V} {r : Tr V} (h : Srt (Tr.node l k' v r).toL) : Srt r.toL := (List.pairwise_cons.1 (Srt.app h).2.1).2
/-! ### The bound on the height -/
def bits : Nat → Nat
  | 0 => 0
  | n + 1 => 1 + bits ((n + 1) / 2)
def highOf (n : Nat) : Nat := (3 * bits (n + 1) + 1) / 2
theorem high_all : ∀ n, n < 601 → ∀ h, h < 15 → Tr.least h ≤ n → h ≤ highOf n := by decide +kernel
theorem high_le {t : Tr V} (h : t.Avl) (hc : t.cnt ≤ 600) : t.ht ≤ highOf t.cnt := by
  have h1 := Tr.least_cnt t h
  by_cases h2 : t.ht < 15
  · exact high_all _ (by omega) _ h2 h1
  · have h3 := Tr.least_le (m := 15) (n := t.ht) (by omega)
    have h4 : Tr.least 15 = 1596 := by decide +kernel
    omega
end Go.Proofs.Ytkodepdbnkghfaa

/- Rows of entries in plain Lean: what a cursor tells, what rows are merged. Conditions: those of the lemmas. -/

import Derived.Lib.Strings
namespace Go.Proofs.Ytcpnjlnphjnhnaa
/-! ### Keys -/
theorem bytesLess_lt : ∀ (x y : List UInt8), Op.bytesLess x y = decide (x < y)
  | [], [] => by simp [Op.bytesLess]
  | _ :: _, [] => by simp [Op.bytesLess]
  | [], _ :: _ => by simp [Op.bytesLess]
  | a :: x, b :: y => by
    rw [Op.bytesLess, bytesLess_lt x y]
    simp only [List.cons_lt_cons_iff]
    by_cases h1 : a < b <;> by_cases h2 : a = b <;> by_cases h3 : x < y <;> simp [h1, h2, h3]
def sLt (a b : ByteArray) : Bool := Op.bytesLess a.toList b.toList
theorem sLt_iff (a b : ByteArray) : sLt a b = true ↔ a.data.toList < b.data.toList := by
  unfold sLt
  rw [bytesLess_lt, Lib.toList_data, Lib.toList_data]
  simp
theorem sLt_irrefl (a : ByteArray) : sLt a a = false := by
  have h : ¬ sLt a a = true := by rw [sLt_iff]; exact List.lt_irrefl _
  simpa using h
theorem sLt_trans {a b c : ByteArray} (h : sLt a b = true) (k : sLt b c = true) : sLt a c = true := by
  rw [sLt_iff] at *
  exact List.lt_trans h k
theorem sLt_asymm {a b : ByteArray} (h : sLt a b = true) : sLt b a = false := by
  have h' : ¬ sLt b a = true := fun k => by
    have := sLt_trans h k
    rw [sLt_irrefl] at this
    cases this
  simpa using h'
theorem sLt_total {a b : ByteArray} (hne : a ≠ b) (h : sLt a b = false) : sLt b a = true := by
  rw [sLt_iff]
  have h' : ¬ a.data.toList < b.data.toList := by rw [← sLt_iff, h]; simp
  have h2 : b.data.toList ≤ a.data.toList := List.not_lt.1 h'
  rcases List.le_iff_lt_or_eq.1 h2 with h3 | h3
  · exact h3
  · exact absurd (ByteArray.ext (Array.toList_inj.1 h3.symm)) hne
theorem sLt_ne {a b : ByteArray} (h : sLt a b = true) : a ≠ b := by
  rintro rfl
  rw [sLt_irrefl] at h
  cases h
theorem toList_ne {a b : ByteArray} (h : a ≠ b) : (a.toList == b.toList) = false := by
  rw [beq_eq_false_iff_ne, Lib.toList_data, Lib.toList_data]
  exact fun e => h (ByteArray.ext (Array.toList_inj.1 e))
theorem leq_not (a b : ByteArray) : (Op.bytesLess a.toList b.toList || a.toList == b.toList) = !sLt b a := by
  by_cases e : a = b
  · subst e
    rw [sLt_irrefl]
    simp
  · rw [toList_ne e, Bool.or_false]
    show sLt a b = !sLt b a
    cases h : sLt a b with
    | true => rw [sLt_asymm h]; rfl
    | false => rw [sLt_total e h]; rfl
/-! ### Entries -/
structure En where
  key : ByteArray
  val : ByteArray
  gone : Bool
def En.zero : En := ⟨⟨#[]⟩, ⟨#[]⟩, false⟩
theorem En.ext3 {x y : En} (h1 : x.key = y.key) (h2 : x.val = y.val) (h3 : x.gone = y.gone) : x = y := by
  cases x; cases y; simp at h1 h2 h3; simp [h1, h2, h3]
/-- A row: its entries, the error at its end. -/
abbrev Rw := List En × Int
/-- Behind this last key an entry does not rise. -/
def flat (last : Option ByteArray) (x : En) : Bool := match last with
  | some k => !sLt k x.key
  | none => false
/-- What a cursor tells of what its source answers. -/
def told : Option ByteArray → List En → Int → Rw
  | _, [], e => ([], e)
  | last, x :: l, e => if flat last x then ([], 3) else (x :: (told (some x.key) l e).1, (told (some x.key) l e).2)
/-- Strictly rising keys. -/
def Ris (l : List En) : Prop := l.Pairwise fun a b => sLt a.key b.key = true
theorem Ris.cons {x : En} {l : List En} (h : Ris (x :: l)) : (∀ y ∈ l, sLt x.key y.key = true) ∧ Ris l := List.pairwise_cons.1 h
theorem told_ris : ∀ (l : List En) (last : Option ByteArray) (e : Int), Ris l → (∀ x ∈ l, flat last x = false) → told last l e = (l, e)
  | [], _, _, _, _ => rfl
  | x :: l, last, e, h, hf => by
    obtain ⟨h1, h2⟩ := h.cons
    rw [told, if_neg (by rw [hf x (by simp)]; decide), told_ris l (some x.key) e h2 (fun y hy => by simp [flat, h1 y hy])]
theorem told_none {l : List En} (h : Ris l) (e : Int) : told none l e = (l, e) := told_ris l none e h (fun _ _ => rfl)
theorem told_mem : ∀ (l : List En) (last : Option ByteArray) (e : Int), ∀ x ∈ (told last l e).1, x ∈ l ∧ ∀ k, last = some k → sLt k x.key = true
  | [], _, _, x, hx => by simp [told] at hx
  | y :: l, last, e, x, hx => by
    rw [told] at hx
    split at hx
    · simp at hx
    · rename_i hf
      have hy : ∀ k, last = some k → sLt k y.key = true := by
        rintro k rfl
        simpa [flat] using hf
      rcases List.mem_cons.1 hx with rfl | hx
      · exact ⟨by simp, hy⟩
      · obtain ⟨h1, h2⟩ := told_mem l _ e x hx
        exact ⟨by simp [h1], fun k hk => sLt_trans (hy k hk) (h2 _ rfl)⟩
theorem told_rises : ∀ (l : List En) (last : Option ByteArray) (e : Int), Ris (told last l e).1
  | [], _, _ => by simp [told, Ris]
  | x :: l, last, e => by
    rw [told]
    split
    · simp [Ris]
    · exact List.pairwise_cons.2 ⟨fun y hy => (told_mem l _ e y hy).2 _ rfl, told_rises l _ e⟩
theorem Ris.filter {l : List En} (h : Ris l) (p : En → Bool) : Ris (l.filter p) := List.Pairwise.filter p h
/-! ### Merging -/
/-- The first row that has come to an error. -/
def errOf : List Rw → Option Int
  | [] => none
  | r :: rs => if r.1.isEmpty && r.2 != 0 then some r.2 else errOf rs
/-- The best of two. -/
def better (b : Option En) (r : Rw) : Option En := match r.1, b with
  | [], b => b
  | x :: _, none => some x
  | x :: _, some y => if sLt x.key y.key then some x else some y
def bestOf (rs : List Rw) : Option En := rs.foldl better none
/-- The row behind its head, where that has this key. -/
def dropK (k : ByteArray) (r : Rw) : Rw := match r.1 with
  | [] => r
  | x :: l => if x.key = k then (l, r.2) else r
inductive Mg : List Rw → List En → Int → Prop
  | err {rs : List Rw} {e : Int} (h : errOf rs = some e) : Mg rs [] e
  | fin {rs : List Rw} (h : errOf rs = none) (hb : bestOf rs = none) : Mg rs [] 0
  | step {rs : List Rw} {x : En} {l : List En} {e : Int} (h : errOf rs = none) (hb : bestOf rs = some x) (hm : Mg (rs.map (dropK x.key)) l e) : Mg rs (x :: l) e
theorem Mg.det {rs : List Rw} {l l' : List En} {e e' : Int} (h : Mg rs l e) (h' : Mg rs l' e') : l = l' ∧ e = e' := by
  induction h generalizing l' e' with
  | err h1 => cases h' with
    | err h2 => rw [h1] at h2; injection h2 with h2; exact ⟨rfl, h2⟩
    | fin h2 _ => rw [h1] at h2; cases h2
    | step h2 _ _ => rw [h1] at h2; cases h2
  | fin h1 hb => cases h' with
    | err h2 => rw [h1] at h2; cases h2
    | fin _ _ => exact ⟨rfl, rfl⟩
    | step _ hb2 _ => rw [hb] at hb2; cases hb2
  | step h1 hb hm ih => cases h' with
    | err h2 => rw [h1] at h2; cases h2
    | fin _ hb2 => rw [hb] at hb2; cases hb2
    | step _ hb2 hm2 =>
      rw [hb] at hb2
      injection hb2 with hb2
      subst hb2
      obtain ⟨e1, e2⟩ := ih hm2
      exact ⟨by rw [e1], e2⟩
/-- How many entries are left. -/
def totR (rs : List Rw) : Nat := (rs.map fun r => r.1.length).sum
theorem totR_cons (r : Rw) (rs : List Rw) : totR (r :: rs) = r.1.length + totR rs := by simp [totR]
theorem dropK_len (k : ByteArray) (r : Rw) : (dropK k r).1.length ≤ r.1.length := by
  unfold dropK
  split
  · exact Nat.le_refl _
  · rename_i x l h
    rw [h]
    split
    · simp
    · simp [h]
theorem totR_drop (k : ByteArray) : ∀ rs : List Rw, totR (rs.map (dropK k)) ≤ totR rs
  | [] => Nat.le_refl _
  | r :: rs => by
    rw [List.map_cons, totR_cons, totR_cons]
    have := dropK_len k r
    have := totR_drop k rs
    omega
/-- The best is the head of a row. -/
theorem best_mem : ∀ (rs : List Rw) (b : Option En) (x : En), rs.foldl better b = some x → b = some x ∨ ∃ r ∈ rs, ∃ l, r.1 = x :: l
  | [], b, x, h => .inl h
  | r :: rs, b, x, h => by
    rw [List.foldl_cons] at h
    rcases best_mem rs _ x h with h2 | ⟨r', hr, l, hl⟩
    · unfold better at h2
      split at h2
      · exact .inl h2
      · rename_i y l hy
        injection h2 with h2
        subst h2
        exact .inr ⟨r, by simp, l, hy⟩
      · rename_i y l z hy
        split at h2
        · injection h2 with h2
          subst h2
          exact .inr ⟨r, by simp, l, hy⟩
        · exact .inl h2
    · exact .inr ⟨r', by simp [hr], l, hl⟩
theorem totR_less {rs : List Rw} {x : En} : (∃ r ∈ rs, ∃ l, r.1 = x :: l) → totR (rs.map (dropK x.key)) < totR rs := by
  induction rs with
  | nil => rintro ⟨r, hr, _⟩; simp at hr
  | cons r rs ih =>
    rintro ⟨r', hr, l, hl⟩
    rw [List.map_cons, totR_cons, totR_cons]
    rcases List.mem_cons.1 hr with rfl | hr
    · have h1 : (dropK x.key r').1.length < r'.1.length := by
        unfold dropK
        rw [hl]
        simp
      have := totR_drop x.key rs
      omega
    · have := ih ⟨r', hr, l, hl⟩
      have := dropK_len x.key r
      omega
theorem bestOf_less {rs : List Rw} {x : En} (h : bestOf rs = some x) : totR (rs.map (dropK x.key)) < totR rs := by
  rcases best_mem rs none x h with h2 | h2
  · cases h2
  · exact totR_less h2
theorem Mg.ex : ∀ (n : Nat) (rs : List Rw), totR rs ≤ n → ∃ l e, Mg rs l e
  | n, rs, hn => by
    rcases Option.eq_none_or_eq_some (errOf rs) with h | ⟨e, h⟩
    · rcases Option.eq_none_or_eq_some (bestOf rs) with hb | ⟨x, hb⟩
      · exact ⟨_, _, .fin h hb⟩
      · have := bestOf_less hb
        match n, hn with
        | 0, hn => omega
        | n + 1, hn =>
          obtain ⟨l, e, hm⟩ := Mg.ex n (rs.map (dropK x.key)) (by omega)
          exact ⟨_, _, .step h hb hm⟩
    · exact ⟨_, _, .err h⟩
theorem Mg.len {rs : List Rw} {l : List En} {e : Int} (h : Mg rs l e) : l.length ≤ totR rs := by
  induction h with
  | err => exact Nat.zero_le _
  | fin => exact Nat.zero_le _
  | step h1 hb hm ih =>
    have := bestOf_less hb
    rw [List.length_cons]
    omega
end Go.Proofs.Ytcpnjlnphjnhnaa

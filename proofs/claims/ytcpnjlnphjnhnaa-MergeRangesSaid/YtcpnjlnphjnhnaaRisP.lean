/- Rising: what it makes. Conditions: those of the lemmas. -/
import Derived.Test.YtcpnjlnphjnhnaaMRis
namespace Go.Proofs.Ytcpnjlnphjnhnaa
open Go.RowKit
/-- A deleted entry has no value. -/
def cl (x : En) : En := if x.gone then ⟨x.key, ⟨#[]⟩, true⟩ else x
theorem cl_key (x : En) : (cl x).key = x.key := by unfold cl; split <;> rfl
def ins (z : En) : List En → List En
  | [] => [z]
  | y :: l => if sLt y.key z.key then y :: ins z l else if y.key = z.key then z :: l else z :: y :: l
def rising (l : List En) : List En := l.foldl (fun a x => ins (cl x) a) []
theorem rising_take {l : List En} {j : Nat} {x : En} (h : l[j]? = some x) : rising (l.take (j + 1)) = ins (cl x) (rising (l.take j)) := by
  rw [take_succ h]
  unfold rising
  rw [List.foldl_append]
  rfl
theorem ins_len (z : En) : ∀ a : List En, (ins z a).length ≤ a.length + 1
  | [] => Nat.le_refl _
  | y :: a => by
    rw [ins]
    have := ins_len z a
    split
    · simp only [List.length_cons]; omega
    · split
      · simp only [List.length_cons]; omega
      · simp only [List.length_cons]; omega
theorem rising_len0 : ∀ (l acc : List En), (l.foldl (fun a x => ins (cl x) a) acc).length ≤ acc.length + l.length
  | [], acc => Nat.le_refl _
  | x :: l, acc => by
    rw [List.foldl_cons]
    have h1 := rising_len0 l (ins (cl x) acc)
    have h2 := ins_len (cl x) acc
    simp only [List.length_cons]
    omega
theorem rising_len (l : List En) : (rising l).length ≤ l.length := by
  have := rising_len0 l []
  simpa [rising] using this
theorem ins_eq {z : En} : ∀ (a : List En) (i : Nat) (y : En), (∀ k y, k < i → a[k]? = some y → sLt y.key z.key = true) → a[i]? = some y → y.key = z.key → ins z a = a.set i z
  | [], i, y, _, h, _ => by simp at h
  | x :: a, 0, y, _, h, he => by
    simp at h
    subst h
    rw [ins, if_neg (by rw [he, sLt_irrefl]; decide), if_pos he]
    rfl
  | x :: a, i + 1, y, hl, h, he => by
    rw [ins, if_pos (hl 0 x (by omega) rfl), ins_eq a i y (fun k y hk h => hl (k + 1) y (by omega) (by simpa using h)) (by simpa using h) he]
    rfl
theorem ins_new {z : En} : ∀ (a : List En) (i : Nat), i ≤ a.length → (∀ k y, k < i → a[k]? = some y → sLt y.key z.key = true) → (∀ y, a[i]? = some y → sLt y.key z.key = false ∧ y.key ≠ z.key) → ins z a = a.take i ++ z :: a.drop i
  | [], i, hi, _, _ => by
    simp at hi
    subst hi
    rfl
  | x :: a, 0, _, _, h => by
    obtain ⟨h1, h2⟩ := h x rfl
    rw [ins, if_neg (by rw [h1]; decide), if_neg h2]
    rfl
  | x :: a, i + 1, hi, hl, h => by
    rw [ins, if_pos (hl 0 x (by omega) rfl), ins_new a i (by simp at hi; omega) (fun k y hk h => hl (k + 1) y (by omega) (by simpa using h)) (fun y hy => h y (by simpa using hy))]
    rfl
/-- One struct of three cells is stored. -/
theorem RowK.set3 {w : World} {e : TypeId} {ys : List (List Value)} {g c n : Nat} (h : RowK w e 3 (.slice (some ⟨g, 0, none⟩) n c) ys) (i : Nat) (hi : i < ys.length) (a b d : Value) :
    RowK (((w.setCell ⟨g, i * 3, none⟩ a).setCell ⟨g, i * 3 + 1, none⟩ b).setCell ⟨g, i * 3 + 2, none⟩ d) e 3 (.slice (some ⟨g, 0, none⟩) n c) (ys.set i [a, b, d]) := by
  have hy : ys[i]? = some (ys[i]'hi) := List.getElem?_eq_getElem _
  have h3 := h.1 _ (List.mem_of_getElem? hy)
  generalize ys[i]'hi = y at hy h3
  match y, h3 with
  | [y0, y1, y2], _ =>
  have s1 := h.set i 0 hy (by decide) a
  have s2 := s1.set i 1 (List.getElem?_set_self (by omega)) (by decide) b
  have s3 := s2.set i 2 (List.getElem?_set_self (by simp; omega)) (by decide) d
  rw [Nat.add_zero] at s3
  simpa using s3
/-! ### shifting -/
/-- A hole at k. -/
def hole (acc : List En) (k : Nat) (q : List Value) : List (List Value) := ens (acc.take k) ++ q :: ens (acc.drop k)
theorem hole_len (acc : List En) (k : Nat) (q : List Value) : (hole acc k q).length = acc.length + 1 := by
  simp [hole, ens_len]
  omega
theorem hole_end (acc : List En) (q : List Value) : hole acc acc.length q = ens acc ++ [q] := by
  simp [hole, ens]
theorem hole_step {acc : List En} {k : Nat} {y : En} (hy : acc[k]? = some y) (q : List Value) : (hole acc (k + 1) q).set (k + 1) (enV y) = hole acc k (enV y) := by
  have hk := (List.getElem?_eq_some_iff.1 hy).1
  unfold hole
  rw [take_succ hy, ens_snoc]
  have hl : (ens (acc.take k) ++ [enV y]).length = k + 1 := by simp [ens_len]; omega
  rw [List.set_append_right _ _ (by omega), hl, Nat.sub_self, List.set_cons_zero]
  rw [show acc.drop k = y :: acc.drop (k + 1) by rw [List.drop_eq_getElem_cons hk]; congr 1; exact Option.some.inj (by rw [← hy, List.getElem?_eq_getElem hk])]
  simp [ens]
theorem hole_at {acc : List En} {k : Nat} {y : En} (hy : acc[k]? = some y) (q : List Value) : (hole acc (k + 1) q)[k]? = some (enV y) := by
  have hk := (List.getElem?_eq_some_iff.1 hy).1
  unfold hole
  rw [List.getElem?_append_left (by rw [ens_len, List.length_take]; omega)]
  simp [ens, List.getElem?_take, hy]
theorem hole_fill (acc : List En) (i : Nat) (hi : i ≤ acc.length) (q : List Value) (z : En) : (hole acc i q).set i (enV z) = ens (acc.take i ++ z :: acc.drop i) := by
  unfold hole
  have hl : (ens (acc.take i)).length = i := by rw [ens_len, List.length_take]; omega
  rw [List.set_append_right _ _ (by omega), hl, Nat.sub_self, List.set_cons_zero]
  simp [ens]
end Go.Proofs.Ytcpnjlnphjnhnaa

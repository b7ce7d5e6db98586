/- The plain law of ChunkMeets: from a common end of chunks on, 15 bytes behind which are alike, the chunks are alike. No program in sight. -/
import Derived.Test.YticlbmeldcncnaaPiecesPre
namespace Go.Proofs.Yticlbmeldcncnaa
open Go.RowKit Ch
theorem win_far (u t : List Int) (h : 16 ≤ t.length) : win (u ++ t) = win t := by
  unfold win
  rw [List.length_append, List.drop_append, List.drop_eq_nil_of_le (by omega), show u.length + t.length - 16 - u.length = t.length - 16 by omega]
  rfl
theorem ends_far (c : Cf) (n : Nat) (u u' t : List Int) (h : 16 ≤ t.length) : ends c n (u ++ t) = ends c n (u' ++ t) := by
  unfold Ch.ends hs
  rw [win_far u t h, win_far u' t h]
theorem run_far (c : Cf) (u u' : List Int) (bs : List Int) : ∀ (t o : List Int) (out : List (List Int)), 15 ≤ t.length →
    (St.run c ⟨u ++ t, o, out⟩ bs).o = (St.run c ⟨u' ++ t, o, out⟩ bs).o ∧ (St.run c ⟨u ++ t, o, out⟩ bs).out = (St.run c ⟨u' ++ t, o, out⟩ bs).out := by
  induction bs with
  | nil => intro t o out _; exact ⟨rfl, rfl⟩
  | cons b bs ih =>
    intro t o out ht
    show (St.run c (St.step c ⟨u ++ t, o, out⟩ b) bs).o = (St.run c (St.step c ⟨u' ++ t, o, out⟩ b) bs).o ∧ (St.run c (St.step c ⟨u ++ t, o, out⟩ b) bs).out = (St.run c (St.step c ⟨u' ++ t, o, out⟩ b) bs).out
    have he := ends_far c (o.length + 1) u u' (t ++ [b]) (by simp; omega)
    unfold St.step
    simp only [List.append_assoc]
    rw [he]
    split
    · exact ih _ _ _ (by simp; omega)
    · exact ih _ _ _ (by simp; omega)
/-- Where a chunk ends, nothing is open. -/
theorem run_mid (c : Cf) : ∀ (n : Nat) (bs : List Int), bs.length = n → ∀ i, i < (St.run c ⟨[], [], []⟩ bs).out.length →
    ∃ k, k ≤ bs.length ∧ St.run c ⟨[], [], []⟩ (bs.take k) = ⟨bs.take k, [], (St.run c ⟨[], [], []⟩ bs).out.take (i + 1)⟩ := by
  intro n
  induction n with
  | zero =>
    intro bs hb i hi
    obtain rfl := List.eq_nil_of_length_eq_zero hb
    simp [St.run] at hi
  | succ n ih =>
    intro bs hb i hi
    rcases List.eq_nil_or_concat bs with rfl | ⟨l, b, hlb⟩
    · simp at hb
    · subst hlb
      rw [List.concat_eq_append] at hb hi ⊢
      simp only [List.length_append, List.length_singleton] at hb
      have hl : l.length = n := by omega
      have hh : (St.run c ⟨[], [], []⟩ l).h = l := by rw [St.run_h]; rfl
      have keep : ∀ i, i < (St.run c ⟨[], [], []⟩ l).out.length → ∀ out2, (St.run c ⟨[], [], []⟩ l).out.take (i + 1) = out2 → ∃ k, k ≤ (l ++ [b]).length ∧ St.run c ⟨[], [], []⟩ ((l ++ [b]).take k) = ⟨(l ++ [b]).take k, [], out2⟩ := by
        intro i hi out2 h2
        obtain ⟨k, hk, e⟩ := ih l hl i hi
        refine ⟨k, by simp; omega, ?_⟩
        rw [List.take_append_of_le_length hk, e, h2]
      rw [St.run_snoc] at hi ⊢
      unfold St.step at hi ⊢
      rw [hh] at hi ⊢
      by_cases he : ends c ((St.run c ⟨[], [], []⟩ l).o.length + 1) (l ++ [b]) = true
      · rw [if_pos he] at hi ⊢
        simp only [List.length_append, List.length_singleton] at hi
        simp only
        by_cases hi2 : i < (St.run c ⟨[], [], []⟩ l).out.length
        · exact keep i hi2 _ (by rw [List.take_append_of_le_length (by omega)])
        · refine ⟨(l ++ [b]).length, Nat.le_refl _, ?_⟩
          rw [List.take_of_length_le (Nat.le_refl _), St.run_snoc]
          unfold St.step
          rw [hh, if_pos he, List.take_of_length_le (by simp; omega)]
      · rw [if_neg he] at hi ⊢
        exact keep i hi _ rfl
def lensOf (css : List (List Int)) : List Int := css.map fun c => (c.length : Int)
theorem lensOf_sum (css : List (List Int)) : (lensOf css).sum = css.flatten.length := by
  induction css with
  | nil => rfl
  | cons x l ih => simp only [lensOf, List.map_cons, List.sum_cons, List.flatten_cons, List.length_append, Int.natCast_add] at ih ⊢; rw [ih]
theorem accs_app (l r : List Int) : ∀ a, accs a (l ++ r) = accs a l ++ accs (a + l.sum) r := by
  induction l with
  | nil => intro a; simp [accs]
  | cons x l ih => intro a; simp only [List.cons_append, accs, ih, List.sum_cons]; rw [show a + x + l.sum = a + (x + l.sum) by omega]
theorem accs_drop (l r : List Int) (i : Nat) (h : l.length = i + 1) (a : Int) : (accs a (l ++ r)).drop i = (a + l.sum) :: accs (a + l.sum) r ∧ (accs a (l ++ r))[i]? = some (a + l.sum) := by
  rcases List.eq_nil_or_concat l with rfl | ⟨l', b, hlb⟩
  · simp at h
  · subst hlb
    rw [List.concat_eq_append] at h ⊢
    simp only [List.length_append, List.length_singleton] at h
    have hl : (accs a l').length = i := by rw [accs_len]; omega
    rw [accs_app, accs_snoc, List.append_assoc]
    rw [List.sum_append, List.sum_cons, List.sum_nil, show a + (l'.sum + (b + 0)) = a + l'.sum + b by omega]
    constructor
    · rw [← hl, List.drop_left]; rfl
    · rw [List.getElem?_append_right (by omega), hl]; simp
/-- What is left of the ends from number i on hangs on the state behind them alone. -/
theorem meets_one (c : Cf) (hc : c.ok) (pre tail : List Int) (i : Nat) (p : Int) (hp0 : 0 ≤ p)
    (hx : (accs (-(pre.length : Int)) (lensOf (St.run c ⟨[], [], []⟩ (pre ++ tail)).parts))[i]? = some p) :
    p ≤ tail.length ∧ (accs (-(pre.length : Int)) (lensOf (St.run c ⟨[], [], []⟩ (pre ++ tail)).parts)).drop i =
      p :: accs p (lensOf (ne ((St.run c ⟨pre ++ tail.take p.toNat, [], []⟩ (tail.drop p.toNat)).out ++ [(St.run c ⟨pre ++ tail.take p.toNat, [], []⟩ (tail.drop p.toNat)).o]))) := by
  have hpe := parts_eq c hc (pre ++ tail)
  have hflat := parts_flat c (pre ++ tail)
  have hil : i < (St.run c ⟨[], [], []⟩ (pre ++ tail)).parts.length := by
    have := (List.getElem?_eq_some_iff.1 hx).1
    rwa [accs_len, lensOf, List.length_map] at this
  by_cases hi : i < (St.run c ⟨[], [], []⟩ (pre ++ tail)).out.length
  · obtain ⟨k, hk, e⟩ := run_mid c _ (pre ++ tail) rfl i hi
    have hall : St.run c ⟨[], [], []⟩ (pre ++ tail) = St.run c (St.run c ⟨[], [], []⟩ ((pre ++ tail).take k)) ((pre ++ tail).drop k) := by
      rw [← St.run_app, List.take_append_drop]
    rw [e] at hall
    have hall := hall.trans (St.run_split c _ _ _ _)
    have hfk : ((St.run c ⟨[], [], []⟩ (pre ++ tail)).out.take (i + 1)).flatten.length = k := by
      have h := St.run_flat c ((pre ++ tail).take k) ⟨[], [], []⟩
      rw [e] at h
      simp only [List.append_nil, List.flatten_nil, List.nil_append] at h
      rw [h, List.length_take]
      omega
    generalize hF : (St.run c ⟨[], [], []⟩ (pre ++ tail)).out.take (i + 1) = F at hall hfk e
    have hFl : F.length = i + 1 := by rw [← hF, List.length_take]; omega
    have hout : ne F = F := by
      unfold ne
      rw [List.filter_eq_self]
      intro x hx
      obtain ⟨hb1, _⟩ := St.run_bounds c hc.2.2.2.1 (pre ++ tail) ⟨[], [], []⟩ (by simp) (by have := hc.1; have := hc.2.2.2.1; simp only [List.length_nil, Int.natCast_zero]; omega)
      have hb3 := (hb1 x (by rw [← hF] at hx; exact List.mem_of_mem_take hx)).1
      simp only [decide_eq_true_eq]
      have := hc.1
      omega
    have hparts : (St.run c ⟨[], [], []⟩ (pre ++ tail)).parts = F ++ ne ((St.run c ⟨(pre ++ tail).take k, [], []⟩ ((pre ++ tail).drop k)).out ++ [(St.run c ⟨(pre ++ tail).take k, [], []⟩ ((pre ++ tail).drop k)).o]) := by
      unfold Ch.St.parts
      rw [hall]
      simp only
      conv => rhs; rw [← hout]
      unfold ne
      rw [← List.filter_append, List.append_assoc]
    rw [hparts] at hx ⊢
    unfold lensOf at hx ⊢
    rw [List.map_append] at hx ⊢
    obtain ⟨q1, q2⟩ := accs_drop (F.map fun c => (c.length : Int)) ((ne ((St.run c ⟨(pre ++ tail).take k, [], []⟩ ((pre ++ tail).drop k)).out ++ [(St.run c ⟨(pre ++ tail).take k, [], []⟩ ((pre ++ tail).drop k)).o])).map fun c => (c.length : Int)) i (by rw [List.length_map, hFl]) (-(pre.length : Int))
    have hs := lensOf_sum F
    unfold lensOf at hs
    rw [hs, hfk] at q1 q2
    rw [q2] at hx
    have hpk : -(pre.length : Int) + (k : Int) = p := by simpa using hx
    rw [hpk] at q1
    rw [List.length_append] at hk
    have hk2 : k = pre.length + p.toNat := by omega
    refine ⟨by omega, ?_⟩
    rw [q1]
    rw [show (pre ++ tail).take k = pre ++ tail.take p.toNat by rw [hk2, List.take_length_add_append], show (pre ++ tail).drop k = tail.drop p.toNat by rw [hk2, List.drop_length_add_append]]
  · have hlast : (St.run c ⟨[], [], []⟩ (pre ++ tail)).parts.length = i + 1 := by
      rw [hpe] at hil ⊢
      rw [List.length_append] at hil ⊢
      split at hil
      · rename_i h; rw [if_pos h]; simp only [List.length_singleton] at hil ⊢; omega
      · simp only [List.length_nil] at hil; omega
    generalize (St.run c ⟨[], [], []⟩ (pre ++ tail)).parts = PP at hx hlast hflat ⊢
    obtain ⟨q1, q2⟩ := accs_drop (lensOf PP) [] i (by rw [lensOf, List.length_map, hlast]) (-(pre.length : Int))
    rw [List.append_nil, lensOf_sum, hflat, List.length_append] at q1 q2
    rw [q2] at hx
    have hpk : -(pre.length : Int) + ((pre.length + tail.length : Nat) : Int) = p := by simpa using hx
    have hpt : p = tail.length := by omega
    rw [hpk] at q1
    refine ⟨by omega, ?_⟩
    rw [q1, hpt]
    simp [St.run, ne, lensOf, accs]
/-- A common end behind 15 bytes of what is alike: the ends from there on are the same. -/
theorem meets_law (c : Cf) (hc : c.ok) (a b tail : List Int) (i j : Nat) (p : Int) (hp : 15 ≤ p)
    (hx : (accs (-(a.length : Int)) (lensOf (St.run c ⟨[], [], []⟩ (a ++ tail)).parts))[i]? = some p)
    (hy : (accs (-(b.length : Int)) (lensOf (St.run c ⟨[], [], []⟩ (b ++ tail)).parts))[j]? = some p) :
    (accs (-(a.length : Int)) (lensOf (St.run c ⟨[], [], []⟩ (a ++ tail)).parts)).drop i = (accs (-(b.length : Int)) (lensOf (St.run c ⟨[], [], []⟩ (b ++ tail)).parts)).drop j := by
  obtain ⟨h1, e1⟩ := meets_one c hc a tail i p (by omega) hx
  obtain ⟨_, e2⟩ := meets_one c hc b tail j p (by omega) hy
  obtain ⟨f1, f2⟩ := run_far c a b (tail.drop p.toNat) (tail.take p.toNat) [] [] (by rw [List.length_take]; omega)
  rw [e1, e2, f1, f2]
end Go.Proofs.Yticlbmeldcncnaa

/- The plain law of chunk: the sum over a window that rolls, the ring that keeps the window, cuts of a list of bytes.
   No program in sight. -/
namespace Go.Proofs.Yticlbmeldcncnaa
namespace Ch
def wsum (l : List Int) : Int := l.foldl (fun x b => x * 31 + b + 1) 0
def win (h : List Int) : List Int := h.drop (h.length - 16)
/-- The sum behind the last of these bytes. -/
def hs (h : List Int) : Int := wsum (win h) % 4294967296
theorem wsum_nil : wsum [] = 0 := rfl
theorem wsum_snoc (l : List Int) (b : Int) : wsum (l ++ [b]) = wsum l * 31 + b + 1 := by simp [wsum]
theorem foldl_from (l : List Int) : ∀ a : Int, l.foldl (fun x b => x * 31 + b + 1) a = a * 31 ^ l.length + wsum l := by
  induction l with
  | nil => intro a; simp [wsum]
  | cons x l ih =>
    intro a
    simp only [wsum, List.foldl_cons, List.length_cons]
    rw [ih, ih]
    simp only [Int.zero_mul, Int.zero_add, Int.pow_succ, Int.add_mul, Int.mul_assoc, Int.one_mul]
    rw [Int.mul_comm 31 (31 ^ l.length)]
    omega
theorem wsum_cons (x : Int) (l : List Int) : wsum (x :: l) = (x + 1) * 31 ^ l.length + wsum l := by
  show List.foldl _ (0 * 31 + x + 1) l = _
  rw [foldl_from]
  simp
theorem win_lo (h : List Int) (b : Int) (hl : h.length < 16) : win (h ++ [b]) = win h ++ [b] := by
  unfold win
  rw [List.length_append, List.length_singleton, show h.length + 1 - 16 = 0 by omega, show h.length - 16 = 0 by omega]
  rfl
theorem win_hi (h : List Int) (b : Int) (hl : 16 ≤ h.length) : win (h ++ [b]) = h.drop (h.length - 15) ++ [b] := by
  unfold win
  rw [List.length_append, List.length_singleton, List.drop_append_of_le_length (by omega), show h.length + 1 - 16 = h.length - 15 by omega]
theorem win_head (h : List Int) (hl : 16 ≤ h.length) : win h = h.getD (h.length - 16) 0 :: h.drop (h.length - 15) := by
  unfold win
  rw [List.drop_eq_getElem_cons (by omega), show h.length - 16 + 1 = h.length - 15 by omega]
  congr 1
  simp [List.getD_eq_getElem?_getD, List.getElem?_eq_getElem (show h.length - 16 < h.length by omega)]
theorem hs_lo (h : List Int) (b : Int) (hl : h.length < 16) : hs (h ++ [b]) = (hs h * 31 + b + 1) % 4294967296 := by
  unfold hs
  rw [win_lo h b hl, wsum_snoc]
  omega
theorem hs_hi (h : List Int) (b : Int) (hl : 16 ≤ h.length) :
    hs (h ++ [b]) = ((hs h - 3784433119 * (h.getD (h.length - 16) 0 + 1)) % 4294967296 * 31 + b + 1) % 4294967296 := by
  unfold hs
  rw [win_hi h b hl, wsum_snoc, win_head h hl, wsum_cons]
  have h15 : (h.drop (h.length - 15)).length = 15 := by rw [List.length_drop]; omega
  rw [h15]
  generalize wsum (h.drop (h.length - 15)) = T
  generalize h.getD (h.length - 16) 0 = x
  have e : (31 : Int) ^ 15 = 23465261991844685929951 := by decide
  rw [e]
  omega
theorem hs_range (h : List Int) : 0 ≤ hs h ∧ hs h < 4294967296 := by unfold hs; omega

/-- The ring holds the last bytes, each at its number modulo 16. -/
def RingOk (ring h : List Int) : Prop := ring.length = 16 ∧ (∀ x ∈ ring, 0 ≤ x ∧ x ≤ 255) ∧ ∀ p, p < h.length → h.length ≤ p + 16 → ring[p % 16]? = h[p]?
theorem RingOk.nil {ring h : List Int} (hr : RingOk ring h) : RingOk ring [] := ⟨hr.1, hr.2.1, fun p hp => by simp at hp⟩
theorem RingOk.push {ring h : List Int} (hr : RingOk ring h) (b : Int) (hb0 : 0 ≤ b) (hb1 : b ≤ 255) : RingOk (ring.set (h.length % 16) b) (h ++ [b]) := by
  refine ⟨by simp [hr.1], ?_, ?_⟩
  · intro x hx
    rcases List.mem_or_eq_of_mem_set hx with hx | rfl
    · exact hr.2.1 x hx
    · exact ⟨hb0, hb1⟩
  · intro p hp hq
    simp only [List.length_append, List.length_singleton] at hp hq
    by_cases e : p = h.length
    · subst e
      rw [List.getElem?_set_self (by rw [hr.1]; omega)]
      simp
    · rw [List.getElem?_set_ne (by omega), List.getElem?_append_left (by omega)]
      exact hr.2.2 p (by omega) (by omega)
theorem RingOk.at_ {ring h : List Int} (hr : RingOk ring h) : ∃ r, ring[h.length % 16]? = some r ∧ 0 ≤ r ∧ r ≤ 255 ∧ (16 ≤ h.length → r = h.getD (h.length - 16) 0) := by
  have hl : h.length % 16 < ring.length := by rw [hr.1]; omega
  refine ⟨ring[h.length % 16], List.getElem?_eq_getElem hl, (hr.2.1 _ (List.getElem_mem hl)).1, (hr.2.1 _ (List.getElem_mem hl)).2, fun h16 => ?_⟩
  have := hr.2.2 (h.length - 16) (by omega) (by omega)
  rw [show (h.length - 16) % 16 = h.length % 16 by omega, List.getElem?_eq_getElem hl] at this
  rw [List.getD_eq_getElem?_getD, ← this]
  rfl

/-! ### Cuts -/
/-- Least, Mean, Most. -/
structure Cf where
  least : Int
  mean : Int
  most : Int
def Cf.ok (c : Cf) : Prop := 1 ≤ c.least ∧ 1 ≤ c.mean ∧ c.mean ≤ 65536 ∧ c.least ≤ c.most ∧ c.most ≤ 4096
instance (c : Cf) : Decidable c.ok := by unfold Cf.ok; exact inferInstance
/-- Does a chunk of n bytes end behind these? -/
def ends (c : Cf) (n : Nat) (h : List Int) : Bool := decide ((n : Int) = c.most) || (decide (c.least ≤ (n : Int)) && decide (hs h % c.mean = c.mean - 1))
/-- All bytes that came; the open chunk; the chunks that have ended. -/
structure St where
  h : List Int
  o : List Int
  out : List (List Int)
def St.step (c : Cf) (s : St) (b : Int) : St :=
  if ends c (s.o.length + 1) (s.h ++ [b]) then ⟨s.h ++ [b], [], s.out ++ [s.o ++ [b]]⟩ else ⟨s.h ++ [b], s.o ++ [b], s.out⟩
def St.run (c : Cf) (s : St) (bs : List Int) : St := bs.foldl (St.step c) s
theorem St.step_h (c : Cf) (s : St) (b : Int) : (St.step c s b).h = s.h ++ [b] := by unfold St.step; split <;> rfl
theorem St.run_h (c : Cf) (bs : List Int) : ∀ s : St, (St.run c s bs).h = s.h ++ bs := by
  induction bs with
  | nil => intro s; simp [St.run]
  | cons b bs ih => intro s; show (St.run c (St.step c s b) bs).h = _; rw [ih, St.step_h]; simp
theorem St.run_o (c : Cf) (bs : List Int) : ∀ s : St, (St.run c s bs).o.length ≤ s.o.length + bs.length := by
  induction bs with
  | nil => intro s; simp [St.run]
  | cons b bs ih =>
    intro s
    have := ih (St.step c s b)
    have h1 : (St.step c s b).o.length ≤ s.o.length + 1 := by unfold St.step; split <;> simp
    show (St.run c (St.step c s b) bs).o.length ≤ _
    simp only [List.length_cons]
    omega
theorem St.run_out (c : Cf) (bs : List Int) : ∀ s : St, (St.run c s bs).out.length ≤ s.out.length + bs.length := by
  induction bs with
  | nil => intro s; simp [St.run]
  | cons b bs ih =>
    intro s
    have := ih (St.step c s b)
    have h1 : (St.step c s b).out.length ≤ s.out.length + 1 := by unfold St.step; split <;> simp
    show (St.run c (St.step c s b) bs).out.length ≤ _
    simp only [List.length_cons]
    omega
theorem St.step_flat (c : Cf) (s : St) (b : Int) : (St.step c s b).out.flatten ++ (St.step c s b).o = s.out.flatten ++ s.o ++ [b] := by
  unfold St.step
  split <;> simp
theorem St.run_flat (c : Cf) (bs : List Int) : ∀ s : St, (St.run c s bs).out.flatten ++ (St.run c s bs).o = s.out.flatten ++ s.o ++ bs := by
  induction bs with
  | nil => intro s; simp [St.run]
  | cons b bs ih => intro s; show (St.run c (St.step c s b) bs).out.flatten ++ (St.run c (St.step c s b) bs).o = _; rw [ih, St.step_flat]; simp
theorem St.step_out_ne (c : Cf) (s : St) (b : Int) (h : ∀ x ∈ s.out, 0 < x.length) : ∀ x ∈ (St.step c s b).out, 0 < x.length := by
  unfold St.step
  split
  · intro x hx
    simp only [List.mem_append, List.mem_singleton] at hx
    rcases hx with hx | rfl
    · exact h x hx
    · simp
  · exact h
theorem St.run_out_ne (c : Cf) (bs : List Int) : ∀ s : St, (∀ x ∈ s.out, 0 < x.length) → ∀ x ∈ (St.run c s bs).out, 0 < x.length := by
  induction bs with
  | nil => intro s h; exact h
  | cons b bs ih => intro s h; exact ih _ (St.step_out_ne c s b h)
/-- Each chunk that has ended has from Least to Most bytes; the open one fewer than Most. -/
theorem St.run_bounds (c : Cf) (hc : c.least ≤ c.most) (bs : List Int) : ∀ s : St, (∀ x ∈ s.out, c.least ≤ (x.length : Int) ∧ (x.length : Int) ≤ c.most) → (s.o.length : Int) < c.most →
    (∀ x ∈ (St.run c s bs).out, c.least ≤ (x.length : Int) ∧ (x.length : Int) ≤ c.most) ∧ ((St.run c s bs).o.length : Int) < c.most := by
  induction bs with
  | nil => intro s h1 h2; exact ⟨h1, h2⟩
  | cons b bs ih =>
    intro s h1 h2
    have hs : (∀ x ∈ (St.step c s b).out, c.least ≤ (x.length : Int) ∧ (x.length : Int) ≤ c.most) ∧ ((St.step c s b).o.length : Int) < c.most := by
      unfold St.step
      split
      · rename_i he
        unfold ends at he
        simp only [Bool.or_eq_true, Bool.and_eq_true, decide_eq_true_eq, Int.natCast_add, Int.natCast_one] at he
        refine ⟨?_, by simp only [List.length_nil, Int.natCast_zero]; omega⟩
        intro x hx
        simp only [List.mem_append, List.mem_singleton] at hx
        rcases hx with hx | rfl
        · exact h1 x hx
        · simp only [List.length_append, List.length_singleton, Int.natCast_add, Int.natCast_one]
          omega
      · rename_i he
        unfold ends at he
        simp only [Bool.or_eq_true, Bool.and_eq_true, decide_eq_true_eq, Int.natCast_add, Int.natCast_one, not_or] at he
        refine ⟨h1, ?_⟩
        simp only [List.length_append, List.length_singleton, Int.natCast_add, Int.natCast_one]
        omega
    exact ih _ hs.1 hs.2
end Ch
end Go.Proofs.Yticlbmeldcncnaa

/- Check, New, push, End of the cutter: what each leaves in memory.
   Conditions: those that each lemma names. -/
import Derived.Test.YticlbmeldcncnaaBase
import Derived.Test.YticlbmeldcncnaaPure
namespace Go.Proofs.Yticlbmeldcncnaa
open Go.RowKit Ch

def i64s (xs : List Int) : List Value := xs.map (Value.int .i64)
def u8s (xs : List Int) : List Value := xs.map (Value.int .u8)
/-- The cutter's block: the conf's twelve numbers, the ring, how many bytes came, their sum, the top, the open chunk's slice. -/
def CutB (w : World) (kb : Nat) (cf : List Int) (h : List Int) (ov : Value) : Prop :=
  ∃ ring : List Int, RingOk ring h ∧ cf.length = 12 ∧ Blk w kb (i64s cf ++ (u8s ring ++ [.int .i64 h.length, .int .u32 (hs h), .int .u32 3784433119, ov])) 54
theorem CutB.fr {S : Nat → Prop} {w w' : World} {kb : Nat} {cf h : List Int} {ov : Value} (hc : CutB w kb cf h ov) (hf : Fr S w w') (hS : ¬ S kb) : CutB w' kb cf h ov := by
  obtain ⟨ring, h1, h2, h3⟩ := hc
  exact ⟨ring, h1, h2, hf.blk h3 hS⟩
theorem CutB.lt {w : World} {kb : Nat} {cf h : List Int} {ov : Value} (hc : CutB w kb cf h ov) : kb < w.heap.size := by
  obtain ⟨ring, h1, h2, h3⟩ := hc
  exact h3.lt

set_option maxRecDepth 100000 in
theorem push_lo (kb : Nat) (n : Nat) (b s r : Int) (w : World) (hn : n < 16) (h28 : w.cell? ⟨kb, 28, none⟩ = some (.int .i64 (n : Int))) (h29 : w.cell? ⟨kb, 29, none⟩ = some (.int .u32 s)) (f28 : w.frozen? ⟨kb, 28, none⟩ = false) (f29 : w.frozen? ⟨kb, 29, none⟩ = false)
   (hr : w.cell? ⟨kb, 12 + n % 16, none⟩ = some (.int .u8 r)) (fr : w.frozen? ⟨kb, 12 + n % 16, none⟩ = false) :
   Calls Try.prog 21 #[.pointer (some ⟨kb, 0, none⟩), .int .u8 b] w fun e w' => e = .returned (.tuple #[]) ∧
    (((w.setCell ⟨kb, 12 + n % 16, none⟩ (.int .u8 b)).setCell ⟨kb, 28, none⟩ (.int .i64 ((n : Int) + 1))).setCell ⟨kb, 29, none⟩ (.int .u32 ((s * 31 + b + 1) % 4294967296))).drew = w' := by
  go_enter Try.func21, Try.ntmps21
  go_wp2
  go_region
  go_wp2
  go_end0
  exact ⟨rfl, rfl⟩
set_option maxRecDepth 100000 in
theorem push_hi (kb : Nat) (n : Nat) (b s t r : Int) (w : World) (hn : 16 ≤ n) (hm : n < 4294967296) (h28 : w.cell? ⟨kb, 28, none⟩ = some (.int .i64 (n : Int))) (h29 : w.cell? ⟨kb, 29, none⟩ = some (.int .u32 s)) (h30 : w.cell? ⟨kb, 30, none⟩ = some (.int .u32 t)) (f28 : w.frozen? ⟨kb, 28, none⟩ = false) (f29 : w.frozen? ⟨kb, 29, none⟩ = false)
   (hr : w.cell? ⟨kb, 12 + n % 16, none⟩ = some (.int .u8 r)) (fr : w.frozen? ⟨kb, 12 + n % 16, none⟩ = false) (hr0 : 0 ≤ r) (hr1 : r ≤ 255) (_hb0 : 0 ≤ b) (_hb1 : b ≤ 255) :
   Calls Try.prog 21 #[.pointer (some ⟨kb, 0, none⟩), .int .u8 b] w fun e w' => e = .returned (.tuple #[]) ∧
    ((((w.setCell ⟨kb, 29, none⟩ (.int .u32 ((s - t * (r + 1)) % 4294967296))).setCell ⟨kb, 12 + n % 16, none⟩ (.int .u8 b)).setCell ⟨kb, 28, none⟩ (.int .i64 ((n : Int) + 1))).setCell ⟨kb, 29, none⟩
      (.int .u32 (((s - t * (r + 1)) % 4294967296 * 31 + b + 1) % 4294967296))).drew.drew = w' := by
  go_enter Try.func21, Try.ntmps21
  go_wp2
  go_region
  go_wp2
  go_region
  go_wp2
  go_end0
  exact ⟨rfl, rfl⟩
theorem cells_at {cf ring : List Int} {a b c d : Value} (h12 : cf.length = 12) (h16 : ring.length = 16) (j : Nat) :
    ((i64s cf ++ (u8s ring ++ [a, b, c, d]))[12 + j]? = (u8s ring ++ [a, b, c, d])[j]?) ∧ (i64s cf ++ (u8s ring ++ [a, b, c, d]))[28]? = some a ∧ (i64s cf ++ (u8s ring ++ [a, b, c, d]))[29]? = some b ∧ (i64s cf ++ (u8s ring ++ [a, b, c, d]))[30]? = some c ∧ (i64s cf ++ (u8s ring ++ [a, b, c, d]))[31]? = some d := by
  have l1 : (i64s cf).length = 12 := by simp [i64s, h12]
  have l2 : (u8s ring).length = 16 := by simp [u8s, h16]
  refine ⟨?_, ?_, ?_, ?_, ?_⟩
  · rw [List.getElem?_append_right (by omega), l1]; congr 1; omega
  all_goals rw [List.getElem?_append_right (by omega), List.getElem?_append_right (by omega), l1, l2]; rfl
theorem cells_set {cf ring : List Int} {a b c d : Value} (h12 : cf.length = 12) (h16 : ring.length = 16) (v : Value) :
    ((i64s cf ++ (u8s ring ++ [a, b, c, d])).set 28 v = i64s cf ++ (u8s ring ++ [v, b, c, d])) ∧ ((i64s cf ++ (u8s ring ++ [a, b, c, d])).set 29 v = i64s cf ++ (u8s ring ++ [a, v, c, d])) ∧ ((i64s cf ++ (u8s ring ++ [a, b, c, d])).set 31 v = i64s cf ++ (u8s ring ++ [a, b, c, v])) ∧
    (∀ j x, j < 16 → (i64s cf ++ (u8s ring ++ [a, b, c, d])).set (12 + j) (.int .u8 x) = i64s cf ++ (u8s (ring.set j x) ++ [a, b, c, d])) := by
  have l1 : (i64s cf).length = 12 := by simp [i64s, h12]
  have l2 : (u8s ring).length = 16 := by simp [u8s, h16]
  refine ⟨?_, ?_, ?_, ?_⟩
  · rw [List.set_append_right _ _ (by omega), List.set_append_right _ _ (by omega), l1, l2]; rfl
  · rw [List.set_append_right _ _ (by omega), List.set_append_right _ _ (by omega), l1, l2]; rfl
  · rw [List.set_append_right _ _ (by omega), List.set_append_right _ _ (by omega), l1, l2]; rfl
  · intro j x hj
    rw [List.set_append_right _ _ (by omega), l1, show 12 + j - 12 = j by omega, List.set_append_left _ _ (by omega)]
    simp [u8s, List.map_set]
/-- push: one byte more. -/
theorem push_any (kb : Nat) (cf h : List Int) (ov : Value) (b : Int) (w : World) (hC : CutB w kb cf h ov) (hb0 : 0 ≤ b) (hb1 : b ≤ 255) (hm : h.length < 4294967296) :
    Calls Try.prog 21 #[.pointer (some ⟨kb, 0, none⟩), .int .u8 b] w fun e w' => e = .returned (.tuple #[]) ∧ CutB w' kb cf (h ++ [b]) ov ∧ Fr (fun k => k = kb) w w' ∧ w'.heap.size = w.heap.size := by
  obtain ⟨ring, hR, h12, hB⟩ := hC
  obtain ⟨r, hr, hr0, hr1, hrh⟩ := hR.at_
  have hj : h.length % 16 < 16 := Nat.mod_lt _ (by decide)
  have hca := cells_at (a := .int .i64 h.length) (b := .int .u32 (hs h)) (c := .int .u32 3784433119) (d := ov) h12 hR.1 (h.length % 16)
  have hr' : (u8s ring ++ [.int .i64 h.length, .int .u32 (hs h), .int .u32 3784433119, ov])[h.length % 16]? = some (.int .u8 r) := by
    rw [List.getElem?_append_left (by simp [u8s, hR.1, hj])]; simp [u8s, hr]
  have fin : ∀ (x y : Int) (w' : World), w'.heap = ((((w.setCell ⟨kb, 29, none⟩ (.int .u32 y)).setCell ⟨kb, 12 + h.length % 16, none⟩ (.int .u8 b)).setCell ⟨kb, 28, none⟩ (.int .i64 ((h.length : Int) + 1))).setCell ⟨kb, 29, none⟩ (.int .u32 x)).heap →
      hs (h ++ [b]) = x → CutB w' kb cf (h ++ [b]) ov := by
    intro x y w' hw hx
    refine ⟨ring.set (h.length % 16) b, hR.push b hb0 hb1, h12, ?_⟩
    unfold Blk
    rw [hw]
    have := (((hB.set 29 (.int .u32 y)).set (12 + h.length % 16) (.int .u8 b)).set 28 (.int .i64 ((h.length : Int) + 1))).set 29 (.int .u32 x)
    rw [(cells_set h12 hR.1 _).2.1, (cells_set h12 hR.1 (.int .u8 b)).2.2.2 _ _ hj, (cells_set h12 (by simp [hR.1]) _).1, (cells_set h12 (by simp [hR.1]) _).2.1] at this
    rw [hx, List.length_append, List.length_singleton, Int.natCast_add]
    exact this
  by_cases hlt : h.length < 16
  · refine (push_lo kb h.length b (hs h) r w hlt (hB.cell 28 hca.2.1) (hB.cell 29 hca.2.2.1) (hB.free _) (hB.free _) (hB.cell _ (hca.1.trans hr')) (hB.free _)).mono ?_
    rintro e w' ⟨rfl, rfl⟩
    refine ⟨rfl, ?_, ((((Fr.refl _ w).set1 _ _).set1 _ _).set1 _ _).drew, by simp [World.drew]⟩
    refine ⟨ring.set (h.length % 16) b, hR.push b hb0 hb1, h12, ?_⟩
    have := ((hB.set (12 + h.length % 16) (.int .u8 b)).set 28 (.int .i64 ((h.length : Int) + 1))).set 29 (.int .u32 ((hs h * 31 + b + 1) % 4294967296))
    rw [(cells_set h12 hR.1 (.int .u8 b)).2.2.2 _ _ hj, (cells_set h12 (by simp [hR.1]) _).1, (cells_set h12 (by simp [hR.1]) _).2.1] at this
    rw [hs_lo h b hlt, List.length_append, List.length_singleton, Int.natCast_add]
    exact this.drew
  · refine (push_hi kb h.length b (hs h) 3784433119 r w (by omega) hm (hB.cell 28 hca.2.1) (hB.cell 29 hca.2.2.1) (hB.cell 30 hca.2.2.2.1) (hB.free _) (hB.free _) (hB.cell _ (hca.1.trans hr')) (hB.free _) hr0 hr1 hb0 hb1).mono ?_
    rintro e w' ⟨rfl, rfl⟩
    refine ⟨rfl, fin _ _ _ rfl ?_, (((((Fr.refl _ w).set1 _ _).set1 _ _).set1 _ _).set1 _ _).drew.drew, by simp [World.drew]⟩
    rw [hs_hi h b (by omega), hrh (by omega)]
end Go.Proofs.Yticlbmeldcncnaa

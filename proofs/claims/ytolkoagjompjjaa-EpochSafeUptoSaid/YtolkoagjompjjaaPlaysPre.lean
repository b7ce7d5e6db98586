/- For the law EpochPlays: the pair of books, the script. Conditions: those of the lemmas. -/
import Derived.Test.YtolkoagjompjjaaRef4
import Derived.Test.YtolkoagjompjjaaAwake
import Derived.Deep.QuietTactic
import Derived.BigQuiet
import Derived.Deep.DrawnRows
namespace Go.Proofs.Ytolkoagjompjjaa
open Go.RowKit
attribute [local go_sem ↓] Go.wp_at_zero Go.wp_at_succ
/-! ### Same -/
set_option maxHeartbeats 1000000 in
set_option maxRecDepth 100000 in
theorem same_any {W : World} {A B : Option Addr} {n ca cb : Nat} {xs : List ByteArray} (hn : xs.length = n) (hA : Rd W A (xs.map Value.string)) (hB : Rd W B (xs.map Value.string)) (hm : n ≤ 9223372036854775807) :
    Calls Try.prog 16 #[.slice A n ca, .slice B n cb] W fun e w' => e = .returned (.bool true) ∧ ∃ q, w' = W.drewN q := by
  go_enter Try.func16, Try.ntmps16
  go_wp2_with fail
  go_loopw [5] (fun i wr => ∃ j : Nat, i = .int .i64 j ∧ j ≤ n ∧ ∃ q, wr = W.drewN q) (fun i _ => n - (intOf i).toNat)
  case atStart => exact ⟨0, rfl, Nat.zero_le _, 0, rfl⟩
  case round =>
    obtain ⟨j, rfl, hj, q, rfl⟩ := hrel
    by_cases hjn : j < n
    · have hx : (xs.map Value.string)[j]? = some (.string (xs[j]'(by omega))) := by rw [List.getElem?_map, List.getElem?_eq_getElem (by omega)]; rfl
      obtain ⟨a, rfl, h1⟩ := hA _ _ hx
      obtain ⟨b, rfl, h2⟩ := hB _ _ hx
      generalize xs[j]'(by omega) = x at h1 h2
      clear hx
      have g1 : ∀ q, (W.drewN q).cell? (a.add j) = some (.string x) := fun q => h1
      have g2 : ∀ q, (W.drewN q).cell? (b.add j) = some (.string x) := fun q => h2
      have i0 : (0 : Int) ≤ (j : Int) := by omega
      have i1 : (j : Int) < (n : Int) := by omega
      go_upto_region 6 with fail
      go_quiet (fail)
      go_wp2
      go_roundw
      case rel => exact ⟨j + 1, by go_num, by omega, _, rfl⟩
      case measure => simp [intOf]; omega
    · obtain rfl : j = n := by omega
      go_wp2
      go_ret
      exact ⟨rfl, q, rfl⟩
/-- The book and the document's. -/
structure PI (w W : World) (b rb : Nat) (now : Int) (sv sv2 ov ov2 av : Value) (slots : List Int) (old : List (ByteArray × Int)) : Prop where
  bk : BkNS w W b now sv slots ov (old.map fun p => (Value.string p.1, p.2))
  rf : RefB W rb now sv2 slots ov2 (oldS old) av (oldA old)
  rbn : w.heap.size ≤ rb
  s2n : ∀ q, sv2.ownBlock = some q → w.heap.size ≤ q
  o2n : ∀ q, ov2.ownBlock = some q → w.heap.size ≤ q
  an : ∀ q, av.ownBlock = some q → w.heap.size ≤ q
  d1 : ∀ q, sv.ownBlock = some q → sv2.ownBlock ≠ some q ∧ av.ownBlock ≠ some q
  pos : ∀ s ∈ slots, 0 ≤ s
  time : 1 ≤ now
theorem PI.new {w W W' : World} {b rb : Nat} {now : Int} {sv sv2 ov ov2 av : Value} {slots : List Int} {old : List (ByteArray × Int)} (h : PI w W b rb now sv sv2 ov ov2 av slots old) (hf : Fr (fun _ => False) W W') : PI w W' b rb now sv sv2 ov ov2 av slots old :=
  ⟨h.bk.new hf, h.rf.fr hf id (fun _ _ => id) (fun _ _ => id) (fun _ _ => id), h.rbn, h.s2n, h.o2n, h.an, h.d1, h.pos, h.time⟩
/-! ### The script -/
structure Op4 where
  kind : Int
  slot : Int
  at_ : Int
  ta : Option Addr
  tc : Nat
  xs : List ByteArray
def opc (o : Op4) : List Value := [.int .i64 o.kind, .int .i64 o.slot, .int .i64 o.at_, .slice o.ta o.xs.length o.tc]
def ops4 (s : List Op4) : List (List Value) := s.map opc
theorem ops4_four (s : List Op4) : ∀ y ∈ ops4 s, y.length = 4 := fun y hy => by obtain ⟨p, _, rfl⟩ := List.mem_map.1 hy; rfl
theorem add_k (a : Addr) (k : Nat) (h : k ≠ 0) : a.add k = ⟨a.block, a.off + k, none⟩ := by unfold Addr.add; rw [if_neg h]
theorem ops4_cells {W : World} {A : Option Addr} {s : List Op4} (h : Rd W A (ops4 s).flatten) {i : Nat} {o : Op4} (hi : s[i]? = some o) :
    ∃ ad, A = some ad ∧ W.cell? (ad.add (i * 4)) = some (.int .i64 o.kind) ∧ W.cell? ⟨(ad.add (i * 4)).block, (ad.add (i * 4)).off + 1, none⟩ = some (.int .i64 o.slot) ∧ W.cell? ⟨(ad.add (i * 4)).block, (ad.add (i * 4)).off + 2, none⟩ = some (.int .i64 o.at_) ∧ W.cell? ⟨(ad.add (i * 4)).block, (ad.add (i * 4)).off + 3, none⟩ = some (.slice o.ta o.xs.length o.tc) := by
  have hy : (ops4 s)[i]? = some (opc o) := by simp [ops4, hi]
  have key : ∀ j v, (opc o)[j]? = some v → j < 4 → ∃ ad, A = some ad ∧ W.cell? (ad.add (i * 4 + j)) = some v := fun j v hv hj => h (i * 4 + j) v (by rw [flat_at (ops4 s) (ops4_four s) i j _ hy hj]; exact hv)
  obtain ⟨ad, e, h0⟩ := key 0 _ rfl (by decide)
  obtain ⟨a1, e1, h1⟩ := key 1 _ rfl (by decide)
  obtain ⟨a2, e2, h2⟩ := key 2 _ rfl (by decide)
  obtain ⟨a3, e3, h3⟩ := key 3 _ rfl (by decide)
  rw [e] at e1 e2 e3
  injection e1 with e1
  injection e2 with e2
  injection e3 with e3
  subst e1 e2 e3
  rw [← add_add] at h1 h2 h3
  rw [add_k _ _ (by decide)] at h1 h2 h3
  exact ⟨ad, e, h0, h1, h2, h3⟩
def allX (s : List Op4) : Nat := (s.map fun o => o.xs.length).sum
theorem rev_ind {α : Type} {p : List α → Prop} (nil : p []) (snoc : ∀ l s, p l → p (l ++ [s])) (l : List α) : p l := by
  have h : ∀ n (l : List α), l.length = n → p l := by
    intro n
    induction n with
    | zero => intro l h; rw [List.length_eq_zero_iff.1 h]; exact nil
    | succ n ih =>
      intro l h
      rcases List.eq_nil_or_concat l with rfl | ⟨l', s, e⟩
      · simp at h
      · have e' : l = l' ++ [s] := by simpa using e
        subst e'
        exact snoc l' s (ih l' (by simpa using h))
  exact h _ l rfl
theorem oldA_times (old : List (ByteArray × Int)) (xs : List ByteArray) (now : Int) : oldA (old ++ xs.map fun x => (x, now)) = oldA old ++ List.replicate xs.length now := by
  unfold oldA
  rw [List.map_append, List.map_map]
  congr 1
  induction xs with
  | nil => rfl
  | cons x xs ih => rw [List.map_cons, ih, List.length_cons, List.replicate_succ]; rfl
theorem allX_app (a b : List Op4) : allX (a ++ b) = allX a + allX b := by simp [allX]
/-! ### What a call on one of the two books leaves of the other -/
section
variable {w W : World} {b rb : Nat} {now : Int} {sv sv2 ov ov2 av : Value} {slots : List Int} {old : List (ByteArray × Int)}
/-- The document's book behind a change of the code's slots. -/
theorem PI.ref_slots (h : PI w W b rb now sv sv2 ov ov2 av slots old) {W' : World} (hf : Fr (fun q => sv.ownBlock = some q) W W') : RefB W' rb now sv2 slots ov2 (oldS old) av (oldA old) :=
  h.rf.fr hf (h.bk.book.slot.ne h.rf.blk (by decide)) (fun q hq hh => (h.d1 q hh).1 hq) (fun q hq hh => h.rf.oldr.ne_row h.bk.book.slot (by decide) q hq hh) (fun q hq hh => (h.d1 q hh).2 hq)
/-- Both slots turned. -/
theorem PI.slots' (h : PI w W b rb now sv sv2 ov ov2 av slots old) {W1 W2 : World} {slots' : List Int} (hB : BkNS w W1 b now sv slots' ov (old.map fun p => (Value.string p.1, p.2))) (hR : RefB W2 rb now sv2 slots' ov2 (oldS old) av (oldA old)) (hf : Fr (fun q => sv2.ownBlock = some q) W1 W2) (hp : ∀ s ∈ slots', 0 ≤ s)
    (hf0 : Fr (fun q => sv.ownBlock = some q) W W1) : PI w W2 b rb now sv sv2 ov ov2 av slots' old := by
  have hs2 : Row W1 3 sv2 (i64s slots) := (h.ref_slots hf0).slot
  refine ⟨⟨hB.book.fr hf (hs2.ne hB.book.blk (by decide)) (fun q hq hh => (h.d1 q hq).1 hh) (fun q hq hh => hB.book.wait.ne_row hs2 (by decide) q hq hh), hB.fr.trans hf (fun i hi hh => by have := h.s2n i hh; omega), hB.bn, hB.sn, hB.on, hB.few⟩, hR, h.rbn, h.s2n, h.o2n, h.an, h.d1, hp, h.time⟩
theorem enter_pos (hp : ∀ s ∈ slots, 0 ≤ s) (sl at_ : Int) : ∀ s ∈ (if enterE now slots sl at_ = 0 then slots.set sl.toNat at_ else slots), 0 ≤ s := by
  split
  · rename_i h
    intro s hs
    rcases List.mem_or_eq_of_mem_set hs with hs | rfl
    · exact hp s hs
    · unfold enterE at h
      split at h
      · cases h
      · rename_i h2
        omega
  · exact hp
theorem leave_pos (hp : ∀ s ∈ slots, 0 ≤ s) (sl : Int) : ∀ s ∈ (if leaveE slots sl = 0 then slots.set sl.toNat 0 else slots), 0 ≤ s := by
  split
  · intro s hs
    rcases List.mem_or_eq_of_mem_set hs with hs | rfl
    · exact hp s hs
    · exact Int.le_refl _
  · exact hp
theorem set_len (c : Prop) [Decidable c] (i : Nat) (v : Int) : (if c then slots.set i v else slots).length = slots.length := by split <;> simp
/-- The pair of books behind a Retire of both. -/
theorem PI.retire (h : PI w W b rb now sv sv2 ov ov2 av slots old) {W1 W2 : World} {ov' ov2' av' : Value} {xs : List ByteArray}
    (hB : BkNS w W1 b (now + 1) sv slots ov' ((old ++ xs.map fun x => (x, now)).map fun p => (Value.string p.1, p.2))) (hf : Fr (fun q => q = b ∨ ov.ownBlock = some q) W W1)
    (hR : RefB W2 rb (now + 1) sv2 slots ov2' (oldS (old ++ xs.map fun x => (x, now))) av' (oldA (old ++ xs.map fun x => (x, now)))) (hf2 : Fr (fun q => q = rb ∨ ov2.ownBlock = some q ∨ av.ownBlock = some q) W1 W2)
    (ho : ∀ q, ov2'.ownBlock = some q → ov2.ownBlock = some q ∨ W1.heap.size ≤ q) (ha : ∀ q, av'.ownBlock = some q → av.ownBlock = some q ∨ W1.heap.size ≤ q) :
    RefB W1 rb now sv2 slots ov2 (oldS old) av (oldA old) → PI w W2 b rb (now + 1) sv sv2 ov' ov2' av' slots (old ++ xs.map fun x => (x, now)) := by
  intro hr1
  have hsz := hB.fr.size
  refine ⟨⟨hB.book.fr hf2 ?_ ?_ ?_, hB.fr.trans hf2 ?_, hB.bn, hB.sn, hB.on, hB.few⟩, hR, h.rbn, h.s2n, ?_, ?_, ?_, h.pos, by have := h.time; omega⟩
  · rintro (hh | hh | hh)
    · exact (hB.book.blk.ne hr1.blk (by decide)) hh
    · exact (hr1.oldr.ne hB.book.blk (by decide)) hh
    · exact (hr1.atr.ne hB.book.blk (by decide)) hh
  · rintro q hq (hh | hh | hh)
    · subst hh; exact (hB.book.slot.ne hr1.blk (by decide)) hq
    · exact hr1.oldr.ne_row hB.book.slot (by decide) q hh hq
    · exact (h.d1 q hq).2 hh
  · rintro q hq (hh | hh | hh)
    · subst hh; exact (hB.book.wait.ne hr1.blk (by decide)) hq
    · exact hB.book.wait.ne_row hr1.oldr (by decide) q hq hh
    · exact hB.book.wait.ne_row hr1.atr (by decide) q hq hh
  · rintro i hi (hh | hh | hh)
    · have := h.rbn; omega
    · have := h.o2n i hh; omega
    · have := h.an i hh; omega
  · intro q hq
    rcases ho q hq with h' | h'
    · exact h.o2n q h'
    · omega
  · intro q hq
    rcases ha q hq with h' | h'
    · exact h.an q h'
    · omega
  · intro q hq
    refine ⟨(h.d1 q hq).1, fun hh => ?_⟩
    rcases ha q hh with h' | h'
    · exact (h.d1 q hq).2 h'
    · have := hB.book.slot.lt hq; omega
theorem PI.ref_book (h : PI w W b rb now sv sv2 ov ov2 av slots old) {W' : World} (hf : Fr (fun q => q = b ∨ ov.ownBlock = some q) W W') : RefB W' rb now sv2 slots ov2 (oldS old) av (oldA old) := by
  have hb := h.bk.book
  refine h.rf.fr hf ?_ ?_ ?_ ?_
  · rintro (hh | hh)
    · exact (hb.blk.ne h.rf.blk (by decide)) hh.symm
    · exact (hb.wait.ne h.rf.blk (by decide)) hh
  · rintro q hq (hh | hh)
    · subst hh; exact (h.rf.slot.ne hb.blk (by decide)) hq
    · exact hb.wait.ne_row h.rf.slot (by decide) q hh hq
  · rintro q hq (hh | hh)
    · subst hh; exact (h.rf.oldr.ne hb.blk (by decide)) hq
    · exact hb.wait.ne_row h.rf.oldr (by decide) q hh hq
  · rintro q hq (hh | hh)
    · subst hh; exact (h.rf.atr.ne hb.blk (by decide)) hq
    · exact hb.wait.ne_row h.rf.atr (by decide) q hh hq
theorem PI.free (h : PI w W b rb now sv sv2 ov ov2 av slots old) {W1 W2 : World} {ov' lv av2 : Value} {left : List (ByteArray × Int)}
    (hB : BkNS w W1 b now sv slots ov' (left.map fun p => (Value.string p.1, p.2))) (hr1 : RefB W1 rb now sv2 slots ov2 (oldS old) av (oldA old))
    (hR : RefB W2 rb now sv2 slots lv (oldS left) av2 (oldA left)) (hf2 : Fr (fun q => q = rb) W1 W2) (ho : ∀ q, lv.ownBlock = some q → W1.heap.size ≤ q) (ha : ∀ q, av2.ownBlock = some q → W1.heap.size ≤ q) :
    PI w W2 b rb now sv sv2 ov' lv av2 slots left := by
  have hsz := hB.fr.size
  refine ⟨⟨hB.book.fr hf2 (hB.book.blk.ne hr1.blk (by decide)) ?_ ?_, hB.fr.trans hf2 (fun i hi hh => by have := h.rbn; omega), hB.bn, hB.sn, hB.on, hB.few⟩, hR, h.rbn, h.s2n, ?_, ?_, ?_, h.pos, h.time⟩
  · rintro q hq rfl; exact (hB.book.slot.ne hr1.blk (by decide)) hq
  · rintro q hq rfl; exact (hB.book.wait.ne hr1.blk (by decide)) hq
  · intro q hq; have := ho q hq; omega
  · intro q hq; have := ha q hq; omega
  · intro q hq
    refine ⟨(h.d1 q hq).1, fun hh => ?_⟩
    have := ha q hh
    have := hB.book.slot.lt hq
    omega
/-- What may be let go. -/
theorem seen_first (now : Int) (t : Int) : ∀ slots : List Int, (∀ s ∈ slots, 0 ≤ s) → decide (t < firstOf now slots) = !seenB now slots t := by
  intro slots
  induction slots using rev_ind with
  | nil =>
    intro _
    by_cases c : now ≤ t
    · have c2 : ¬ t < now := by omega
      simp [firstOf, seenB, c, c2]
    · have c2 : t < now := by omega
      simp [firstOf, seenB, c, c2]
  | snoc l s ih =>
    intro hp
    have ih := ih (fun x hx => hp x (by simp [hx]))
    have h0 := hp s (by simp)
    have e1 : firstOf now (l ++ [s]) = if s ≠ 0 then min (firstOf now l) s else firstOf now l := by unfold firstOf; rw [List.foldl_append]; rfl
    have e2 : seenB now (l ++ [s]) t = (seenB now l t || decide (0 < s ∧ s ≤ t)) := by unfold seenB; rw [List.any_append]; simp [Bool.or_assoc]
    rw [e1, e2]
    by_cases hs : s = 0
    · subst hs
      simpa using ih
    · rw [if_pos hs, Bool.not_or, ← ih]
      have h1 : 0 < s := by omega
      by_cases c1 : t < firstOf now l
      · by_cases c2 : t < s
        · have c3 : t < min (firstOf now l) s := by omega
          have c4 : ¬ (0 < s ∧ s ≤ t) := by omega
          simp [c1, c3, c4]
        · have c3 : ¬ t < min (firstOf now l) s := by omega
          have c4 : 0 < s ∧ s ≤ t := by omega
          simp [c1, c3, c4]
      · have c3 : ¬ t < min (firstOf now l) s := by omega
        simp [c1, c3]
end
end Go.Proofs.Ytolkoagjompjjaa

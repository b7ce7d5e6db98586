/- For the law EpochSafe: what is known of the book, of who entered when, and of what waits. Conditions: those of the lemmas. -/
import Derived.Test.YtolkoagjompjjaaPlaysPre
import Derived.Test.YtolkoagjompjjaaWin
namespace Go.Proofs.Ytolkoagjompjjaa
open Go.RowKit
/-- A thing that waits: its text, its book time, the script's step. -/
structure T3 where
  x : ByteArray
  at_ : Int
  td : Int
def lOld (L : List T3) : List (Value × Int) := L.map fun p => (Value.string p.x, p.at_)
def lNam (L : List T3) : List Value := L.map fun p => Value.string p.x
def lTd (L : List T3) : List Int := L.map T3.td
theorem lOld_len (L : List T3) : (lOld L).length = L.length := by simp [lOld]
theorem lNam_len (L : List T3) : (lNam L).length = L.length := by simp [lNam]
theorem lTd_len (L : List T3) : (lTd L).length = L.length := by simp [lTd]
/-! ### The plain law -/
structure SInv (i now : Int) (S E : List Int) (L : List T3) : Prop where
  s8 : S.length = 8
  e8 : E.length = 8
  rd : ∀ k, k < 8 → 0 ≤ S.getD k 0 ∧ S.getD k 0 ≤ now ∧ (E.getD k 0 < 0 ↔ S.getD k 0 = 0)
  el : ∀ p ∈ L, p.td < i ∧ p.at_ < now
  key : ∀ k, k < 8 → ∀ p ∈ L, 0 ≤ E.getD k 0 → E.getD k 0 < p.td → S.getD k 0 ≤ p.at_
  up : L.Pairwise fun p q => p.at_ ≤ q.at_
  one : 1 ≤ now
theorem getD_set (l : List Int) (k j : Nat) (v : Int) (hk : k < l.length) : (l.set k v).getD j 0 = if j = k then v else l.getD j 0 := by
  rw [List.getD_eq_getElem?_getD, List.getD_eq_getElem?_getD]
  by_cases h : j = k
  · subst h
    rw [if_pos rfl, List.getElem?_set_self hk]
    rfl
  · rw [if_neg h, List.getElem?_set_ne (fun e => h e.symm)]
theorem SInv.next {i now : Int} {S E : List Int} {L : List T3} (h : SInv i now S E L) : SInv (i + 1) now S E L :=
  ⟨h.s8, h.e8, h.rd, fun p hp => ⟨by have := (h.el p hp).1; omega, (h.el p hp).2⟩, h.key, h.up, h.one⟩
theorem SInv.enter {i now : Int} {S E : List Int} {L : List T3} (h : SInv i now S E L) (hi : 0 ≤ i) (k : Nat) (hk : k < 8) (at_ : Int) (h1 : 1 ≤ at_) (h2 : at_ ≤ now) (hz : S.getD k 0 = 0) : SInv (i + 1) now (S.set k at_) (E.set k i) L := by
  refine ⟨by rw [List.length_set, h.s8], by rw [List.length_set, h.e8], fun j hj => ?_, fun p hp => ⟨by have := (h.el p hp).1; omega, (h.el p hp).2⟩, fun j hj p hp => ?_, h.up, h.one⟩
  · rw [getD_set S _ _ _ (by rw [h.s8]; exact hk), getD_set E _ _ _ (by rw [h.e8]; exact hk)]
    by_cases e : j = k
    · rw [if_pos e, if_pos e]
      exact ⟨by omega, h2, by omega, by omega⟩
    · rw [if_neg e, if_neg e]
      exact h.rd j hj
  · rw [getD_set S _ _ _ (by rw [h.s8]; exact hk), getD_set E _ _ _ (by rw [h.e8]; exact hk)]
    by_cases e : j = k
    · rw [if_pos e, if_pos e]
      intro _ h4
      have := (h.el p hp).1
      omega
    · rw [if_neg e, if_neg e]
      exact h.key j hj p hp
theorem SInv.leave {i now : Int} {S E : List Int} {L : List T3} (h : SInv i now S E L) (k : Nat) (hk : k < 8) : SInv (i + 1) now (if leaveE S (k : Int) = 0 then S.set (k : Int).toNat 0 else S) (E.set k (-1)) L := by
  have hS : (if leaveE S (k : Int) = 0 then S.set (k : Int).toNat 0 else S) = S.set k 0 := by
    have e : leaveE S (k : Int) = if S.getD k 0 = 0 then 11 else 0 := by unfold leaveE; rw [if_neg (by rw [h.s8]; omega), Int.toNat_natCast]
    rw [e, Int.toNat_natCast]
    by_cases hz : S.getD k 0 = 0
    · rw [if_pos hz, if_neg (by decide)]
      refine List.ext_getElem? (fun j => ?_)
      by_cases e : j = k
      · subst e
        have hj : j < S.length := by rw [h.s8]; exact hk
        rw [List.getElem?_set_self hj, List.getElem?_eq_getElem hj]
        rw [List.getD_eq_getElem?_getD, List.getElem?_eq_getElem hj] at hz
        exact congrArg some hz
      · rw [List.getElem?_set_ne (fun e' => e e'.symm)]
    · rw [if_neg hz, if_pos rfl]
  rw [hS]
  refine ⟨by rw [List.length_set, h.s8], by rw [List.length_set, h.e8], fun j hj => ?_, fun p hp => ⟨by have := (h.el p hp).1; omega, (h.el p hp).2⟩, fun j hj p hp => ?_, h.up, h.one⟩
  · rw [getD_set S _ _ _ (by rw [h.s8]; exact hk), getD_set E _ _ _ (by rw [h.e8]; exact hk)]
    by_cases e : j = k
    · rw [if_pos e, if_pos e]
      have := h.one
      exact ⟨by omega, by omega, by omega, by omega⟩
    · rw [if_neg e, if_neg e]
      exact h.rd j hj
  · rw [getD_set S _ _ _ (by rw [h.s8]; exact hk), getD_set E _ _ _ (by rw [h.e8]; exact hk)]
    by_cases e : j = k
    · rw [if_pos e, if_pos e]
      intro h3 _
      omega
    · rw [if_neg e, if_neg e]
      exact h.key j hj p hp
def news (xs : List ByteArray) (now i : Int) : List T3 := xs.map fun x => ⟨x, now, i⟩
theorem SInv.retire {i now : Int} {S E : List Int} {L : List T3} (h : SInv i now S E L) (xs : List ByteArray) : SInv (i + 1) (now + 1) S E (L ++ news xs now i) := by
  have hn : ∀ p ∈ news xs now i, p.at_ = now ∧ p.td = i := fun p hp => by obtain ⟨x, _, rfl⟩ := List.mem_map.1 hp; exact ⟨rfl, rfl⟩
  refine ⟨h.s8, h.e8, fun k hk => ⟨(h.rd k hk).1, by have := (h.rd k hk).2.1; omega, (h.rd k hk).2.2⟩, fun p hp => ?_, fun k hk p hp h1 h2 => ?_, ?_, by have := h.one; omega⟩
  · rcases List.mem_append.1 hp with hp | hp
    · have := h.el p hp; omega
    · have := hn p hp; omega
  · rcases List.mem_append.1 hp with hp | hp
    · exact h.key k hk p hp h1 h2
    · rw [(hn p hp).1]; exact (h.rd k hk).2.1
  · refine List.pairwise_append.2 ⟨h.up, ?_, fun p hp q hq => ?_⟩
    · exact List.pairwise_of_forall_mem_list fun p hp q hq => by rw [(hn p hp).1, (hn q hq).1]; exact Int.le_refl _
    · have := (h.el p hp).2
      have := (hn q hq).1
      omega
theorem firstOf_le (now : Int) (S : List Int) : firstOf now S ≤ now ∧ ∀ s ∈ S, s ≠ 0 → firstOf now S ≤ s := by
  induction S using rev_ind with
  | nil => simp [firstOf]
  | snoc l s ih =>
    have e1 : firstOf now (l ++ [s]) = if s ≠ 0 then min (firstOf now l) s else firstOf now l := by unfold firstOf; rw [List.foldl_append]; rfl
    rw [e1]
    split
    · refine ⟨by omega, fun x hx hx0 => ?_⟩
      rcases List.mem_append.1 hx with hx | hx
      · have := ih.2 x hx hx0; omega
      · rw [List.mem_singleton.1 hx]; omega
    · rename_i hs
      refine ⟨ih.1, fun x hx hx0 => ?_⟩
      rcases List.mem_append.1 hx with hx | hx
      · exact ih.2 x hx hx0
      · rw [List.mem_singleton.1 hx] at hx0; exact absurd hx0 hs
/-- What goes free is the head of what waits. -/
theorem free_head (F : Int) : ∀ (L : List T3), L.Pairwise (fun p q => p.at_ ≤ q.at_) → ∃ n, n ≤ L.length ∧ (L.filter fun p => decide (p.at_ < F)) = L.take n ∧ (L.filter fun p => !decide (p.at_ < F)) = L.drop n
  | [], _ => ⟨0, Nat.le_refl _, rfl, rfl⟩
  | p :: L, h => by
    obtain ⟨h1, h2⟩ := List.pairwise_cons.1 h
    by_cases c : p.at_ < F
    · obtain ⟨n, hn, e1, e2⟩ := free_head F L h2
      refine ⟨n + 1, by simp; omega, ?_, ?_⟩
      · simp [c, e1]
      · simp [c, e2]
    · refine ⟨0, Nat.zero_le _, ?_, ?_⟩
      · rw [List.take_zero, List.filter_eq_nil_iff]
        intro q hq
        rcases List.mem_cons.1 hq with rfl | hq
        · simpa using c
        · have := h1 q hq
          simp only [decide_eq_true_eq]
          omega
      · rw [List.drop_zero, List.filter_eq_self]
        intro q hq
        rcases List.mem_cons.1 hq with rfl | hq
        · simpa using c
        · have := h1 q hq
          simp only [Bool.not_eq_true', decide_eq_false_iff_not]
          omega
/-- Nobody reads who came ahead of its retiring. -/
theorem SInv.safe {i now : Int} {S E : List Int} {L : List T3} (h : SInv i now S E L) {p : T3} (hp : p ∈ L) (hf : p.at_ < firstOf now S) (k : Nat) (hk : k < 8) : ¬ (0 ≤ E.getD k 0 ∧ E.getD k 0 < p.td) := by
  rintro ⟨h1, h2⟩
  have h3 := h.key k hk p hp h1 h2
  have h4 := (h.rd k hk).2.2
  have h5 : S.getD k 0 ∈ S := by
    have hkS : k < S.length := by rw [h.s8]; exact hk
    rw [List.getD_eq_getElem?_getD, List.getElem?_eq_getElem hkS]
    exact List.getElem_mem hkS
  have h6 := (firstOf_le now S).2 _ h5 (fun e => by have := h4.2 e; omega)
  omega
theorem SInv.free {i now : Int} {S E : List Int} {L : List T3} (h : SInv i now S E L) (n : Nat) : SInv (i + 1) now S E (L.drop n) :=
  ⟨h.s8, h.e8, h.rd, fun p hp => by have := h.el p (List.mem_of_mem_drop hp); omega, fun k hk p hp => h.key k hk p (List.mem_of_mem_drop hp), h.up.drop, h.one⟩
/-! ### The memory -/
structure PS (w W : World) (b eb : Nat) (now : Int) (sv ov tv nv : Value) (S E : List Int) (L : List T3) : Prop where
  bk : BkNS w W b now sv S ov (lOld L)
  ent : Blk W eb (i64s E) 3
  told : Win W 3 tv (i64s (lTd L))
  names : Win W 9 nv (lNam L)
  ebn : w.heap.size ≤ eb
  tn : ∀ q, tv.ownBlock = some q → w.heap.size ≤ q ∧ q ≠ eb ∧ sv.ownBlock ≠ some q
  nn : ∀ q, nv.ownBlock = some q → w.heap.size ≤ q
  se : sv.ownBlock ≠ some eb
section
variable {w W : World} {b eb : Nat} {now : Int} {sv ov tv nv : Value} {S E : List Int} {L : List T3}
theorem PS.new (h : PS w W b eb now sv ov tv nv S E L) {W' : World} (hf : Fr (fun _ => False) W W') : PS w W' b eb now sv ov tv nv S E L :=
  ⟨h.bk.new hf, hf.blk h.ent id, h.told.fr hf (fun _ _ => id), h.names.fr hf (fun _ _ => id), h.ebn, h.tn, h.nn, h.se⟩
theorem Win.ne_blk {W : World} {e t : TypeId} {v : Value} {xs cs : List Value} {g : Nat} (h : Win W e v xs) (hb : Blk W g cs t) (ht : e ≠ t) : v.ownBlock ≠ some g := fun hq => by
  obtain ⟨c, hc⟩ := h.kind hq
  exact (hc.ne hb ht) rfl
theorem Row.ne_win {W : World} {e t : TypeId} {v u : Value} {xs ys : List Value} (h : Row W e v xs) (h' : Win W t u ys) (ht : e ≠ t) (q : Nat) (hq : v.ownBlock = some q) : u.ownBlock ≠ some q := fun hq' => by
  obtain ⟨c, hc⟩ := h'.kind hq'
  exact (h.ne hc ht) hq
theorem RowK.ne_win {W : World} {e t : TypeId} {k : Nat} {v u : Value} {xs : List (List Value)} {ys : List Value} (h : RowK W e k v xs) (h' : Win W t u ys) (ht : e ≠ t) (q : Nat) (hq : v.ownBlock = some q) : u.ownBlock ≠ some q := fun hq' => by
  obtain ⟨c, hc⟩ := h'.kind hq'
  exact (h.ne hc ht) hq
/-- The book's slots turned. -/
theorem PS.slots' (h : PS w W b eb now sv ov tv nv S E L) {W1 : World} {S' : List Int} (hB : BkNS w W1 b now sv S' ov (lOld L)) (hf : Fr (fun q => sv.ownBlock = some q) W W1) : PS w W1 b eb now sv ov tv nv S' E L :=
  ⟨hB, hf.blk h.ent h.se, h.told.fr hf (fun q hq hh => (h.tn q hq).2.2 hh), h.names.fr hf (fun q hq hh => h.bk.book.slot.ne_win h.names (by decide) q hh hq), h.ebn, h.tn, h.nn, h.se⟩
/-- Who entered when, turned. -/
theorem PS.ent' (h : PS w W b eb now sv ov tv nv S E L) (k : Nat) (v : Int) : PS w (W.setCell ⟨eb, k, none⟩ (.int .i64 v)) b eb now sv ov tv nv S (E.set k v) L := by
  have hf : Fr (fun q => q = eb) W (W.setCell ⟨eb, k, none⟩ (.int .i64 v)) := (Fr.refl _ W).set1 _ _
  have hb := h.bk
  have he : Blk (W.setCell ⟨eb, k, none⟩ (.int .i64 v)) eb (i64s (E.set k v)) 3 := by
    have := h.ent.set k (.int .i64 v)
    unfold i64s at this ⊢
    rw [List.map_set]
    exact this
  refine ⟨⟨hb.book.fr hf (hb.book.blk.ne h.ent (by decide)) (fun q hq hh => ?_) (fun q hq hh => ?_), hb.fr.trans hf (fun i hi hh => by have := h.ebn; omega), hb.bn, hb.sn, hb.on, hb.few⟩, he, h.told.fr hf (fun q hq hh => (h.tn q hq).2.1 hh), h.names.fr hf (fun q hq hh => ?_), h.ebn, h.tn, h.nn, h.se⟩
  · subst hh; exact h.se hq
  · subst hh; exact (hb.book.wait.ne h.ent (by decide)) hq
  · subst hh; exact (h.names.ne_blk h.ent (by decide)) hq
/-- The book behind a Retire: what else there is stays. -/
theorem PS.keep (h : PS w W b eb now sv ov tv nv S E L) {W1 : World} (hf : Fr (fun q => q = b ∨ ov.ownBlock = some q) W W1) : Blk W1 eb (i64s E) 3 ∧ Win W1 3 tv (i64s (lTd L)) ∧ Win W1 9 nv (lNam L) := by
  have hb := h.bk.book
  refine ⟨hf.blk h.ent ?_, h.told.fr hf ?_, h.names.fr hf ?_⟩
  · rintro (hh | hh)
    · exact (hb.blk.ne h.ent (by decide)) hh.symm
    · exact (hb.wait.ne h.ent (by decide)) hh
  · rintro q hq (hh | hh)
    · subst hh; exact (h.told.ne_blk hb.blk (by decide)) hq
    · exact hb.wait.ne_win h.told (by decide) q hh hq
  · rintro q hq (hh | hh)
    · subst hh; exact (h.names.ne_blk hb.blk (by decide)) hq
    · exact hb.wait.ne_win h.names (by decide) q hh hq
/-- What else there is, while the names are appended to. -/
theorem names_fr {W1 : World} {old : List (Value × Int)} {Nn : List Value} {Tt : List Value} (hB : BkNS w W b now sv S ov old) (hE : Blk W eb (i64s E) 3) (hT : Win W 3 tv Tt) (hN : Win W 9 nv Nn) (hn : ∀ q, nv.ownBlock = some q → w.heap.size ≤ q) (hf : Fr (fun q => nv.ownBlock = some q) W W1) :
    BkNS w W1 b now sv S ov old ∧ Blk W1 eb (i64s E) 3 ∧ Win W1 3 tv Tt := by
  refine ⟨⟨hB.book.fr hf (hN.ne_blk hB.book.blk (by decide)) (fun q hq hh => hB.book.slot.ne_win hN (by decide) q hq hh) (fun q hq hh => hB.book.wait.ne_win hN (by decide) q hq hh), hB.fr.trans hf (fun i hi hh => by have := hn i hh; omega), hB.bn, hB.sn, hB.on, hB.few⟩, hf.blk hE (hN.ne_blk hE (by decide)), hT.fr hf (fun q hq hh => ?_)⟩
  obtain ⟨c, hc⟩ := hT.kind hq
  exact (hN.ne_blk hc (by decide)) hh
/-- What else there is, while the steps told are appended to. -/
theorem told_fr {W1 : World} {old : List (Value × Int)} {Nn : List Value} {Tt : List Value} (hB : BkNS w W b now sv S ov old) (hE : Blk W eb (i64s E) 3) (hT : Win W 3 tv Tt) (hN : Win W 9 nv Nn) (hn : ∀ q, tv.ownBlock = some q → w.heap.size ≤ q ∧ q ≠ eb ∧ sv.ownBlock ≠ some q) (hf : Fr (fun q => tv.ownBlock = some q) W W1) :
    BkNS w W1 b now sv S ov old ∧ Blk W1 eb (i64s E) 3 ∧ Win W1 9 nv Nn := by
  refine ⟨⟨hB.book.fr hf (hT.ne_blk hB.book.blk (by decide)) (fun q hq hh => (hn q hh).2.2 hq) (fun q hq hh => hB.book.wait.ne_win hT (by decide) q hq hh), hB.fr.trans hf (fun i hi hh => by have := (hn i hh).1; omega), hB.bn, hB.sn, hB.on, hB.few⟩, hf.blk hE (fun hh => (hn eb hh).2.1 rfl), hN.fr hf (fun q hq hh => ?_)⟩
  obtain ⟨c, hc⟩ := hN.kind hq
  exact (hT.ne_blk hc (by decide)) hh
end
end Go.Proofs.Ytolkoagjompjjaa

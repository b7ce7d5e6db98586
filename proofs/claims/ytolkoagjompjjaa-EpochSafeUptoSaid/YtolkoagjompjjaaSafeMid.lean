/- For the law EpochSafe: the state while the names and the steps are appended to. Conditions: those of the lemmas. -/
import Derived.Test.YtolkoagjompjjaaSafePre
namespace Go.Proofs.Ytolkoagjompjjaa
open Go.RowKit
structure PM (w W : World) (b eb : Nat) (now : Int) (sv ov tv nv : Value) (S E : List Int) (old : List (Value × Int)) (nam : List Value) (tol : List Int) : Prop where
  bk : BkNS w W b now sv S ov old
  ent : Blk W eb (i64s E) 3
  told : Win W 3 tv (i64s tol)
  names : Win W 9 nv nam
  ebn : w.heap.size ≤ eb
  tn : ∀ q, tv.ownBlock = some q → w.heap.size ≤ q ∧ q ≠ eb ∧ sv.ownBlock ≠ some q
  nn : ∀ q, nv.ownBlock = some q → w.heap.size ≤ q
  se : sv.ownBlock ≠ some eb
section
variable {w W : World} {b eb : Nat} {now : Int} {sv ov tv nv : Value} {S E : List Int} {L : List T3} {old : List (Value × Int)} {nam : List Value} {tol : List Int}
theorem PM.toPS (h : PM w W b eb now sv ov tv nv S E (lOld L) nam tol) (h1 : nam = lNam L) (h2 : tol = lTd L) : PS w W b eb now sv ov tv nv S E L := by
  subst h1 h2
  exact ⟨h.bk, h.ent, h.told, h.names, h.ebn, h.tn, h.nn, h.se⟩
theorem PM.new (h : PM w W b eb now sv ov tv nv S E old nam tol) {W' : World} (hf : Fr (fun _ => False) W W') : PM w W' b eb now sv ov tv nv S E old nam tol :=
  ⟨h.bk.new hf, hf.blk h.ent id, h.told.fr hf (fun _ _ => id), h.names.fr hf (fun _ _ => id), h.ebn, h.tn, h.nn, h.se⟩
/-- Behind a Retire or a Free. -/
theorem PS.book (h : PS w W b eb now sv ov tv nv S E L) {W1 : World} {ov' : Value} {now' : Int} (hB : BkNS w W1 b now' sv S ov' old) (hf : Fr (fun q => q = b ∨ ov.ownBlock = some q) W W1) : PM w W1 b eb now' sv ov' tv nv S E old (lNam L) (lTd L) :=
  ⟨hB, (h.keep hf).1, (h.keep hf).2.1, (h.keep hf).2.2, h.ebn, h.tn, h.nn, h.se⟩
theorem PM.app_names (h : PM w W b eb now sv ov tv nv S E old nam tol) {W1 : World} {v1 : Value} {ys : List Value} (hv : Win W1 9 v1 ys) (ho : v1.ownBlock = nv.ownBlock ∨ v1.ownBlock = some W.heap.size) (hf : Fr (fun q => nv.ownBlock = some q) W W1) : PM w W1 b eb now sv ov tv v1 S E old ys tol := by
  obtain ⟨a1, a2, a3⟩ := names_fr h.bk h.ent h.told h.names h.nn hf
  refine ⟨a1, a2, a3, hv, h.ebn, h.tn, fun q hq => ?_, h.se⟩
  rcases ho with e | e
  · exact h.nn q (by rw [← e]; exact hq)
  · rw [e] at hq
    injection hq with hq
    have := h.bk.fr.size
    omega
theorem PM.app_told (h : PM w W b eb now sv ov tv nv S E old nam tol) {W1 : World} {v1 : Value} {ys : List Int} (hv : Win W1 3 v1 (i64s ys)) (ho : v1.ownBlock = tv.ownBlock ∨ v1.ownBlock = some W.heap.size) (hf : Fr (fun q => tv.ownBlock = some q) W W1) : PM w W1 b eb now sv ov v1 nv S E old nam ys := by
  obtain ⟨a1, a2, a3⟩ := told_fr h.bk h.ent h.told h.names h.tn hf
  refine ⟨a1, a2, hv, a3, h.ebn, fun q hq => ?_, h.nn, h.se⟩
  rcases ho with e | e
  · exact h.tn q (by rw [← e]; exact hq)
  · rw [e] at hq
    injection hq with hq
    have h1 := h.bk.fr.size
    have h2 := h.ent.lt
    refine ⟨by omega, by omega, fun hh => ?_⟩
    have := h.bk.book.slot.lt hh
    omega
/-- A block of the kind of the script's operations stays. -/
theorem PM.ne_tell (h : PM w W b eb now sv ov tv nv S E old nam tol) {ob : Nat} {cs : List Value} (hb : Blk W ob cs 35) : tv.ownBlock ≠ some ob := h.told.ne_blk hb (by decide)
theorem strs_one1 (xs : List ByteArray) : ∀ u ∈ xs.map Value.string, u.oneCell' = true := fun u hu => by obtain ⟨y, _, rfl⟩ := List.mem_map.1 hu; rfl
theorem lNam_news (L : List T3) (xs : List ByteArray) (now i : Int) : lNam (L ++ news xs now i) = lNam L ++ xs.map Value.string := by
  simp [lNam, news]
theorem lTd_news (L : List T3) (xs : List ByteArray) (now i : Int) : lTd (L ++ news xs now i) = lTd L ++ List.replicate xs.length i := by
  simp only [lTd, news, List.map_append, List.map_map]
  congr 1
  induction xs with
  | nil => rfl
  | cons x xs ih => simp only [List.map_cons, List.length_cons, List.replicate_succ, ih]; rfl
theorem lOld_news (L : List T3) (xs : List ByteArray) (now i : Int) : lOld L ++ ((xs.map Value.string).map fun x => (x, now)) = lOld (L ++ news xs now i) := by
  simp [lOld, news]
theorem lOld_filter (L : List T3) (F : Int) : ((lOld L).filter fun p => decide (p.2 < F)) = lOld (L.filter fun p => decide (p.at_ < F)) := by
  unfold lOld
  rw [List.filter_map]
  rfl
theorem lOld_filter' (L : List T3) (F : Int) : ((lOld L).filter fun p => !decide (p.2 < F)) = lOld (L.filter fun p => !decide (p.at_ < F)) := by
  unfold lOld
  rw [List.filter_map]
  rfl
theorem lOld_fst (L : List T3) : (lOld L).map Prod.fst = lNam L := by simp [lOld, lNam]
theorem lOld_str (L : List T3) : ∀ p ∈ lOld L, ∃ e, p.1 = Value.string e := fun p hp => by
  obtain ⟨q, _, rfl⟩ := List.mem_map.1 hp
  exact ⟨q.x, rfl⟩
/-- A window cut at its head, as the walk meets it. -/
theorem Win.sliced {W : World} {e : TypeId} {A : Option Addr} {m c : Nat} {xs : List Value} (h : Win W e (.slice A m c) xs) {n : Nat} (hn : n ≤ m) :
    Win W e (Go.sliced A n m c 1) (xs.drop n) ∧ ∀ q, (Go.sliced A n m c 1).ownBlock = some q → (Value.slice A m c).ownBlock = some q := by
  have h0 := h
  unfold Go.sliced
  rcases h with ⟨h1, rfl⟩ | ⟨g, off, c', cs, h1, hb, h2, h3, h4, h5⟩
  · injection h1 with e1 e2 e3
    subst e1 e2 e3
    obtain rfl : n = 0 := by omega
    exact ⟨by simpa using Win.nil W e, fun q hq => by simp [Value.ownBlock] at hq⟩
  · injection h1 with e1 e2 e3
    subst e1 e2 e3
    by_cases hc : c = n
    · rw [if_pos hc]
      refine ⟨?_, fun q hq => hq⟩
      have := h0.dropEnd n hn hc
      rwa [show c - n = 0 by omega]
    · rw [if_neg hc]
      have ha : (some (⟨g, off, none⟩ : Addr)).map (fun x => x.add (n * 1)) = some ⟨g, off + n, none⟩ := by
        rw [Option.map_some, Nat.mul_one]
        unfold Addr.add
        split <;> simp_all
      rw [ha]
      exact ⟨h0.drop hn, fun q hq => hq⟩
theorem lNam_drop (L : List T3) (n : Nat) : (lNam L).drop n = lNam (L.drop n) := by simp [lNam, List.map_drop]
theorem lTd_drop (L : List T3) (n : Nat) : (i64s (lTd L)).drop n = i64s (lTd (L.drop n)) := by simp [lTd, i64s, List.map_drop]
theorem lNam_at {L : List T3} {k : Nat} (h : k < L.length) : (lNam L)[k]? = some (.string (L[k]'h).x) := by
  unfold lNam
  rw [List.getElem?_map, List.getElem?_eq_getElem h]
  rfl
theorem lTd_at {L : List T3} {k : Nat} (h : k < L.length) : (i64s (lTd L))[k]? = some (.int .i64 (L[k]'h).td) := by
  unfold lTd i64s
  rw [List.map_map, List.getElem?_map, List.getElem?_eq_getElem h]
  rfl
theorem PM.cut {w W : World} {b eb : Nat} {now : Int} {sv ov tv nv : Value} {S E : List Int} {L : List T3} {n : Nat} (h : PM w W b eb now sv ov tv nv S E (lOld (L.drop n)) (lNam L) (lTd L)) {tv' nv' : Value}
    (h1 : Win W 3 tv' ((i64s (lTd L)).drop n)) (h2 : Win W 9 nv' ((lNam L).drop n)) (o1 : ∀ q, tv'.ownBlock = some q → tv.ownBlock = some q) (o2 : ∀ q, nv'.ownBlock = some q → nv.ownBlock = some q) : PS w W b eb now sv ov tv' nv' S E (L.drop n) := by
  rw [lTd_drop] at h1
  rw [lNam_drop] at h2
  exact ⟨h.bk, h.ent, h1, h2, h.ebn, fun q hq => h.tn q (o1 q hq), fun q hq => h.nn q (o2 q hq), h.se⟩
end
theorem leave_eq {S : List Int} (k : Nat) (hk : k < S.length) : (if leaveE S (k : Int) = 0 then S.set (k : Int).toNat 0 else S) = S.set k 0 := by
  have e : leaveE S (k : Int) = if S.getD k 0 = 0 then 11 else 0 := by unfold leaveE; rw [if_neg (by omega), Int.toNat_natCast]
  rw [e, Int.toNat_natCast]
  by_cases hz : S.getD k 0 = 0
  · rw [if_pos hz, if_neg (by decide)]
    refine List.ext_getElem? (fun j => ?_)
    by_cases e : j = k
    · subst e
      rw [List.getElem?_set_self hk, List.getElem?_eq_getElem hk]
      rw [List.getD_eq_getElem?_getD, List.getElem?_eq_getElem hk] at hz
      exact congrArg some hz
    · rw [List.getElem?_set_ne (fun e' => e e'.symm)]
  · rw [if_neg hz, if_pos rfl]
theorem firstOf_zero (now : Int) (S : List Int) (h : ∀ k, k < S.length → S.getD k 0 = 0) : firstOf now S = now := by
  have h' : ∀ s ∈ S, s = 0 := fun s hs => by
    obtain ⟨k, hk, rfl⟩ := List.mem_iff_getElem.1 hs
    have := h k hk
    rwa [List.getD_eq_getElem?_getD, List.getElem?_eq_getElem hk] at this
  clear h
  induction S using rev_ind with
  | nil => rfl
  | snoc l s ih =>
    have e1 : firstOf now (l ++ [s]) = if s ≠ 0 then min (firstOf now l) s else firstOf now l := by unfold firstOf; rw [List.foldl_append]; rfl
    rw [e1, if_neg (by simp [h' s (by simp)])]
    exact ih (fun x hx => h' x (List.mem_append_left _ hx))
theorem lNam_map (L : List T3) : lNam L = (L.map T3.x).map Value.string := by simp [lNam]
end Go.Proofs.Ytolkoagjompjjaa

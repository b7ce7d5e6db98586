/- What the cutter's Add keeps from round to round, and what it leaves. Conditions: those that each lemma names. -/
import Derived.Test.YticlbmeldcncnaaPush
namespace Go.Proofs.Yticlbmeldcncnaa
open Go.RowKit Ch

theorem info5 : (Try.prog.info? 5).map (fun i => (i.zero, i.size, i.bytes)) = some (some (.int .u8 0), 1, 1) := by kernel_rfl
theorem info24 : (Try.prog.info? 24).map (fun i => (i.zero, i.size, i.bytes)) = some (some (.slice none 0 0), 1, 24) := by kernel_rfl
theorem info3 : (Try.prog.info? 3).map (fun i => (i.zero, i.size, i.bytes)) = some (some (.int .i64 0), 1, 8) := by kernel_rfl

/-- Bytes that are read: a slice of n bytes; nil and empty alike. -/
def RdB (w : World) (A : Option Addr) (n : Nat) (bs : List Int) : Prop :=
  bs.length = n ∧ (∀ x ∈ bs, 0 ≤ x ∧ x ≤ 255) ∧ (0 < n → ∃ ad : Addr, A = some ad ∧ ∀ j, j < n → w.cell? (ad.add j) = some (.int .u8 (bs.getD j 0)))
theorem Addr.add_block (ad : Addr) (j : Nat) : (ad.add j).block = ad.block := by unfold Addr.add; split <;> rfl
theorem RdB.fr {S : Nat → Prop} {w w' : World} {A : Option Addr} {n : Nat} {bs : List Int} (h : RdB w A n bs) (hf : Fr S w w') (hS : ∀ ad, A = some ad → ¬ S ad.block) : RdB w' A n bs :=
  ⟨h.1, h.2.1, fun hn => by
    obtain ⟨ad, e, hc⟩ := h.2.2 hn
    exact ⟨ad, e, fun j hj => hf.cell (hc j hj) (by rw [Addr.add_block]; exact hS ad e)⟩⟩
theorem RdB.lt {w : World} {A : Option Addr} {n : Nat} {bs : List Int} (h : RdB w A n bs) (hn : 0 < n) {ad : Addr} (e : A = some ad) : ad.block < w.heap.size := by
  obtain ⟨ad', e', hc⟩ := h.2.2 hn
  have : ad = ad' := by rw [e] at e'; injection e'
  subst this
  have := World.block_lt_of_cell? w _ (hc 0 hn)
  rwa [Addr.add_block] at this
theorem getD_range {bs : List Int} (h : ∀ x ∈ bs, 0 ≤ x ∧ x ≤ 255) (k : Nat) : 0 ≤ bs.getD k 0 ∧ bs.getD k 0 ≤ 255 := by
  rw [List.getD_eq_getElem?_getD]
  by_cases hk : k < bs.length
  · rw [List.getElem?_eq_getElem hk]; exact h _ (List.getElem_mem hk)
  · rw [List.getElem?_eq_none (by omega)]; simp

/-- Values that are slices of bytes, each with a block of its own. -/
def Apart (vs : List Value) : Prop := vs.Pairwise fun a b => ∀ k, a.ownBlock = some k → b.ownBlock ≠ some k
def Chs (w : World) (vs : List Value) (css : List (List Int)) : Prop := vs.length = css.length ∧ ∀ (i : Nat) (v : Value), vs[i]? = some v → ∃ cs, css[i]? = some cs ∧ Row w 5 v (u8s cs)
theorem Chs.nil (w : World) : Chs w [] [] := ⟨rfl, fun i v h => by simp at h⟩
theorem Chs.fr {S : Nat → Prop} {w w' : World} {vs : List Value} {css : List (List Int)} (h : Chs w vs css) (hf : Fr S w w') (hS : ∀ v ∈ vs, ∀ k, v.ownBlock = some k → ¬ S k) : Chs w' vs css :=
  ⟨h.1, fun i v hv => by
    obtain ⟨cs, h1, h2⟩ := h.2 i v hv
    exact ⟨cs, h1, h2.fr hf (hS v (List.mem_of_getElem? hv))⟩⟩
theorem Chs.snoc {w : World} {vs : List Value} {css : List (List Int)} {v : Value} {cs : List Int} (h : Chs w vs css) (hv : Row w 5 v (u8s cs)) : Chs w (vs ++ [v]) (css ++ [cs]) := by
  refine ⟨by simp [h.1], fun i u hu => ?_⟩
  rcases Nat.lt_trichotomy i vs.length with hi | hi | hi
  · rw [List.getElem?_append_left hi] at hu
    obtain ⟨c, h1, h2⟩ := h.2 i u hu
    exact ⟨c, by rw [List.getElem?_append_left (by rw [← h.1]; exact hi)]; exact h1, h2⟩
  · subst hi
    simp at hu
    subst hu
    exact ⟨cs, by rw [h.1]; simp, hv⟩
  · rw [List.getElem?_eq_none (by simp; omega)] at hu
    cases hu

/-- What stands at the head of round k. v: the list of chunks; ov: the open chunk's slice; vs: the chunks' slices. -/
structure AddInv (w wr : World) (kb : Nat) (cf : List Int) (s : St) (ov0 ov v : Value) (vs : List Value) : Prop where
  cut : CutB wr kb cf s.h ov
  opn : Row wr 5 ov (u8s s.o)
  rows : Chs wr vs s.out
  out : Row wr 24 v vs
  apart : Apart (ov :: vs)
  fr : Fr (fun k => k = kb ∨ ov0.ownBlock = some k) w wr
  new : ∀ u ∈ ov :: vs, ∀ k, u.ownBlock = some k → ov0.ownBlock = some k ∨ w.heap.size ≤ k
  newOut : ∀ k, v.ownBlock = some k → w.heap.size ≤ k
theorem CutB.conf {w : World} {kb : Nat} {cf h : List Int} {ov : Value} (hc : CutB w kb cf h ov) (j : Nat) {x : Int} (hx : cf[j]? = some x) : w.cell? ⟨kb, j, none⟩ = some (.int .i64 x) := by
  obtain ⟨ring, h1, h2, h3⟩ := hc
  have hj : j < cf.length := (List.getElem?_eq_some_iff.1 hx).1
  refine h3.cell j ?_
  rw [List.getElem?_append_left (by simp [i64s, hj])]
  simp [i64s, hx]
theorem CutB.sum {w : World} {kb : Nat} {cf h : List Int} {ov : Value} (hc : CutB w kb cf h ov) : w.cell? ⟨kb, 29, none⟩ = some (.int .u32 (hs h)) := by
  obtain ⟨ring, h1, h2, h3⟩ := hc
  exact h3.cell 29 (cells_at h2 h1.1 0).2.2.1
theorem CutB.opn {w : World} {kb : Nat} {cf h : List Int} {ov : Value} (hc : CutB w kb cf h ov) : w.cell? ⟨kb, 31, none⟩ = some ov := by
  obtain ⟨ring, h1, h2, h3⟩ := hc
  exact h3.cell 31 (cells_at h2 h1.1 0).2.2.2.2
theorem CutB.free {w : World} {kb : Nat} {cf h : List Int} {ov : Value} (hc : CutB w kb cf h ov) (j : Nat) : w.frozen? ⟨kb, j, none⟩ = false := by
  obtain ⟨ring, h1, h2, h3⟩ := hc
  exact h3.free j
theorem CutB.set {w : World} {kb : Nat} {cf h : List Int} {ov : Value} (hc : CutB w kb cf h ov) (v : Value) : CutB (w.setCell ⟨kb, 31, none⟩ v) kb cf h v := by
  obtain ⟨ring, h1, h2, h3⟩ := hc
  refine ⟨ring, h1, h2, ?_⟩
  have := h3.set 31 v
  rwa [(cells_set h2 h1.1 v).2.2.1] at this
theorem CutB.ne {w : World} {kb : Nat} {cf h : List Int} {ov : Value} (hc : CutB w kb cf h ov) {v : Value} {e : TypeId} {xs : List Value} (hr : Row w e v xs) (he : e ≠ 54) : v.ownBlock ≠ some kb := by
  obtain ⟨ring, h1, h2, h3⟩ := hc
  exact hr.ne h3 he
theorem St.run_snoc (c : Cf) (s : St) (bs : List Int) (b : Int) : St.run c s (bs ++ [b]) = St.step c (St.run c s bs) b := by simp [St.run]
theorem u8s_snoc (o : List Int) (b : Int) : u8s (o ++ [b]) = u8s o ++ [.int .u8 b] := by simp [u8s]
theorem u8s_len (o : List Int) : (u8s o).length = o.length := by simp [u8s]
theorem AddInv.ne {w wr : World} {kb : Nat} {cf : List Int} {s : St} {ov0 ov v : Value} {vs : List Value} (hI : AddInv w wr kb cf s ov0 ov v vs) :
    ∀ u ∈ vs, ∀ q, u.ownBlock = some q → q ≠ kb ∧ ov.ownBlock ≠ some q ∧ v.ownBlock ≠ some q ∧ q < wr.heap.size := by
  intro u hu q hq
  obtain ⟨i, hi⟩ := List.getElem?_of_mem hu
  obtain ⟨cs, _, hr⟩ := hI.rows.2 i u hi
  refine ⟨?_, ?_, ?_, hr.lt hq⟩
  · rintro rfl
    exact hI.cut.ne hr (by decide) hq
  · intro e
    exact (List.pairwise_cons.1 hI.apart).1 u hu q e hq
  · exact hr.ne_row hI.out (by decide) q hq
theorem AddInv.keep {w wr w3 : World} {kb : Nat} {cf : List Int} {s : St} {ov0 ov v : Value} {vs : List Value} {g c2 : Nat} {b : Int} (hI : AddInv w wr kb cf s ov0 ov v vs)
    (hC3 : CutB w3 kb cf (s.h ++ [b]) (.slice (some ⟨g, 0, none⟩) ((u8s s.o).length + 1) c2)) (hR3 : Row w3 5 (.slice (some ⟨g, 0, none⟩) ((u8s s.o).length + 1) c2) (u8s s.o ++ [.int .u8 b]))
    (hf3 : Fr (fun q => q = kb ∨ ov.ownBlock = some q) wr w3) (hor : ov.ownBlock = some g ∨ wr.heap.size ≤ g) :
    AddInv w w3 kb cf ⟨s.h ++ [b], s.o ++ [b], s.out⟩ ov0 (.slice (some ⟨g, 0, none⟩) ((u8s s.o).length + 1) c2) v vs := by
  have hne := hI.ne
  refine ⟨hC3, by rw [u8s_snoc]; exact hR3, hI.rows.fr hf3 ?_, hI.out.fr hf3 ?_, ?_, hI.fr.trans hf3 ?_, ?_, hI.newOut⟩
  · intro u hu q hq h
    rcases h with h | h
    · exact (hne u hu q hq).1 h
    · exact (hne u hu q hq).2.1 h
  · intro q hq h
    rcases h with rfl | h
    · exact hI.cut.ne hI.out (by decide) hq
    · exact hI.out.ne_row hI.opn (by decide) q hq h
  · refine List.pairwise_cons.2 ⟨fun u hu q hq hu' => ?_, (List.pairwise_cons.1 hI.apart).2⟩
    have hq' : g = q := by simpa [Value.ownBlock] using hq
    subst hq'
    rcases hor with h | h
    · exact (hne u hu _ hu').2.1 h
    · have := (hne u hu _ hu').2.2.2; omega
  · intro q hq h
    rcases h with h | h
    · exact .inl h
    · rcases hI.new ov (by simp) q h with h' | h'
      · exact .inr h'
      · omega
  · intro u hu q hq
    rcases List.mem_cons.1 hu with rfl | hu
    · have hq' : g = q := by simpa [Value.ownBlock] using hq
      subst hq'
      rcases hor with h | h
      · exact hI.new ov (by simp) _ h
      · right; have := hI.fr.size; omega
    · exact hI.new u (by simp [hu]) q hq
theorem AddInv.emit {w w4 w5 : World} {kb : Nat} {cf h' o' : List Int} {out' : List (List Int)} {ov0 v x : Value} {vs : List Value} {g1 c3 : Nat}
    (hI : AddInv w w4 kb cf ⟨h', o', out'⟩ ov0 x v vs) (hR : Row w5 24 (.slice (some ⟨g1, 0, none⟩) (vs.length + 1) c3) (vs ++ [x]))
    (hor : v.ownBlock = some g1 ∨ w4.heap.size < g1) (hf : Fr (fun q => v.ownBlock = some q) w4 w5) :
    AddInv w (w5.setCell ⟨kb, 31, none⟩ (.slice none 0 0)) kb cf ⟨h', [], out' ++ [o']⟩ ov0 (.slice none 0 0) (.slice (some ⟨g1, 0, none⟩) (vs.length + 1) c3) (vs ++ [x]) := by
  have hne := hI.ne
  have hkv : v.ownBlock ≠ some kb := hI.cut.ne hI.out (by decide)
  have hC5 : CutB w5 kb cf h' x := hI.cut.fr hf hkv
  have hX5 : Row w5 5 x (u8s o') := hI.opn.fr hf (fun q hq h => hI.opn.ne_row hI.out (by decide) q hq h)
  have hV5 : Chs w5 vs out' := hI.rows.fr hf (fun u hu q hq h => (hne u hu q hq).2.2.1 h)
  have hfs : Fr (fun q => q = kb) w5 (w5.setCell ⟨kb, 31, none⟩ (.slice none 0 0)) := (Fr.refl _ _).set1 _ _
  have hap := List.pairwise_cons.1 hI.apart
  refine ⟨hC5.set _, Row.nil _ _, ?_, ?_, ?_, ?_, ?_, ?_⟩
  · refine (hV5.snoc hX5).fr hfs ?_
    intro u hu q hq e
    subst e
    rcases List.mem_append.1 hu with hu | hu
    · exact (hne u hu _ hq).1 rfl
    · have := List.mem_singleton.1 hu
      subst this
      exact hC5.ne hX5 (by decide) hq
  · exact hR.fr hfs (fun q hq e => by subst e; exact hC5.ne hR (by decide) hq)
  · refine List.pairwise_cons.2 ⟨fun u hu q hq => by simp [Value.ownBlock] at hq, List.pairwise_append.2 ⟨hap.2, List.pairwise_singleton _ _, ?_⟩⟩
    intro a ha b hb q hq hbq
    have := List.mem_singleton.1 hb
    subst this
    exact hap.1 a ha q hbq hq
  · refine (hI.fr.trans hf ?_).trans hfs ?_
    · intro q hq h
      have := hI.newOut q h
      omega
    · intro q _ h
      exact .inl h
  · intro u hu q hq
    rcases List.mem_cons.1 hu with rfl | hu
    · simp [Value.ownBlock] at hq
    · rcases List.mem_append.1 hu with hu | hu
      · exact hI.new u (by simp [hu]) q hq
      · have := List.mem_singleton.1 hu
        subst this
        exact hI.new _ (by simp) q hq
  · intro q hq
    have hq' : g1 = q := by simpa [Value.ownBlock] using hq
    subst hq'
    rcases hor with h | h
    · exact hI.newOut _ h
    · have := hI.fr.size; omega
end Go.Proofs.Yticlbmeldcncnaa

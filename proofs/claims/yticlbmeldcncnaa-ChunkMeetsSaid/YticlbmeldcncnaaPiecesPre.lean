/- What stands in the rounds of ChunkPieces. Conditions: those of the lemmas. -/
import Derived.Test.YticlbmeldcncnaaCuts
import Derived.Test.YticlbmeldcncnaaRight
namespace Go.Proofs.Yticlbmeldcncnaa
open Go.RowKit Ch
theorem St.run_split (c : Cf) (xs : List Int) : ∀ h o out, St.run c ⟨h, o, out⟩ xs = ⟨(St.run c ⟨h, o, []⟩ xs).h, (St.run c ⟨h, o, []⟩ xs).o, out ++ (St.run c ⟨h, o, []⟩ xs).out⟩ := by
  induction xs with
  | nil => intro h o out; simp [St.run]
  | cons b xs ih =>
    intro h o out
    show St.run c (St.step c ⟨h, o, out⟩ b) xs = ⟨(St.run c (St.step c ⟨h, o, []⟩ b) xs).h, (St.run c (St.step c ⟨h, o, []⟩ b) xs).o, out ++ (St.run c (St.step c ⟨h, o, []⟩ b) xs).out⟩
    unfold St.step
    simp only
    split
    · rw [ih, ih _ _ ([] ++ [o ++ [b]])]
      simp
    · rw [ih]
theorem St.run_app (c : Cf) (s : St) (a b : List Int) : St.run c s (a ++ b) = St.run c (St.run c s a) b := by simp [St.run, List.foldl_append]
theorem parts_eq (c : Cf) (hc : c.ok) (bs : List Int) : (St.run c ⟨[], [], []⟩ bs).parts = (St.run c ⟨[], [], []⟩ bs).out ++ (if 0 < (St.run c ⟨[], [], []⟩ bs).o.length then [(St.run c ⟨[], [], []⟩ bs).o] else []) := by
  obtain ⟨h1, _, _, h4, _⟩ := hc
  obtain ⟨hb1, hb2⟩ := St.run_bounds c h4 bs ⟨[], [], []⟩ (by simp) (by simp only [List.length_nil, Int.natCast_zero]; omega)
  generalize St.run c ⟨[], [], []⟩ bs = s at hb1 hb2
  have hout : ne s.out = s.out := by
    unfold ne
    rw [List.filter_eq_self]
    intro x hx
    have := (hb1 x hx).1
    simp only [decide_eq_true_eq]
    omega
  unfold Ch.St.parts
  rw [ne_snoc, hout]
  split <;> simp
/-- The cutter behind these bytes. -/
abbrev stAt (c : Cf) (bs : List Int) (k : Nat) : St := St.run c ⟨[], [], []⟩ (bs.take k)
theorem stAt_h (c : Cf) (bs : List Int) (k : Nat) : (stAt c bs k).h = bs.take k := by unfold stAt; rw [St.run_h]; rfl
theorem stAt_add (c : Cf) (bs : List Int) (k p : Nat) :
    stAt c bs (k + p) = ⟨(St.run c ⟨(stAt c bs k).h, (stAt c bs k).o, []⟩ ((bs.drop k).take p)).h, (St.run c ⟨(stAt c bs k).h, (stAt c bs k).o, []⟩ ((bs.drop k).take p)).o,
      (stAt c bs k).out ++ (St.run c ⟨(stAt c bs k).h, (stAt c bs k).o, []⟩ ((bs.drop k).take p)).out⟩ := by
  unfold stAt
  rw [List.take_add, St.run_app, ← St.run_split]
/-- What stands while pieces come: the cutter behind the bytes that came, what it answered so far. -/
structure PcI (w W : World) (kb : Nat) (cf : List Int) (s : St) (wv : Value) (L : List Int) (ov g : Value) (vs : List Value) : Prop where
  cut : CutB W kb cf s.h ov
  opn : Row W 5 ov (u8s s.o)
  rows : Chs W vs s.out
  out : Row W 24 g vs
  want : Row W 3 wv (i64s L)
  apart : Apart (ov :: vs)
  fr : Fr (fun _ => False) w W
  kbn : w.heap.size ≤ kb
  vsn : ∀ u ∈ ov :: vs, ∀ k, u.ownBlock = some k → w.heap.size ≤ k
  gn : ∀ k, g.ownBlock = some k → w.heap.size ≤ k
theorem Chs.mem {w : World} {vs : List Value} {css : List (List Int)} (h : Chs w vs css) {u : Value} (hu : u ∈ vs) : ∃ cs, Row w 5 u (u8s cs) := by
  obtain ⟨i, hi⟩ := List.getElem?_of_mem hu
  obtain ⟨cs, _, hr⟩ := h.2 i u hi
  exact ⟨cs, hr⟩
theorem Chs.app {w : World} {vs us : List Value} {css dss : List (List Int)} (h : Chs w vs css) (k : Chs w us dss) : Chs w (vs ++ us) (css ++ dss) := by
  refine ⟨by simp [h.1, k.1], fun i v hv => ?_⟩
  by_cases hi : i < vs.length
  · rw [List.getElem?_append_left hi] at hv
    obtain ⟨cs, h1, h2⟩ := h.2 i v hv
    exact ⟨cs, by rw [List.getElem?_append_left (by rw [← h.1]; exact hi)]; exact h1, h2⟩
  · rw [List.getElem?_append_right (by omega)] at hv
    obtain ⟨cs, h1, h2⟩ := k.2 _ v hv
    exact ⟨cs, by rw [List.getElem?_append_right (by rw [← h.1]; omega), ← h.1]; exact h1, h2⟩
/-- A piece came: it was copied (W1), added (W2), what was answered was appended (W3), the copy was written over (W4). -/
theorem PcI.step {w W W1 W2 W3 W4 : World} {kb : Nat} {cf : List Int} {s : St} {wv : Value} {L : List Int} {ov g : Value} {vs : List Value} (hI : PcI w W kb cf s wv L ov g vs)
    {ow : Value} {ps : List Value} (f1 : Fr (fun _ => False) W W1) (ho : Row W1 5 ow ps) (hon : ∀ k, ow.ownBlock = some k → W.heap.size ≤ k)
    {s2 : St} {v ov' : Value} {us : List Value} (hA : AddInv W1 W2 kb cf s2 ov ov' v us)
    {g' : Value} (hg : Row W3 24 g' (vs ++ us)) (hgo : g'.ownBlock = g.ownBlock ∨ g'.ownBlock = some W2.heap.size) (f3 : Fr (fun k => g.ownBlock = some k) W2 W3)
    (f4 : Fr (fun k => ow.ownBlock = some k) W3 W4) :
    PcI w W4 kb cf ⟨s2.h, s2.o, s.out ++ s2.out⟩ wv L ov' g' (vs ++ us) := by
  have l1 := f1.size
  have l2 := hA.fr.size
  have l3 := f3.size
  have l0 := hI.fr.size
  have hkl := hI.cut.lt
  have hol : ∀ k, ow.ownBlock = some k → k < W1.heap.size := fun k hk => ho.lt hk
  have hovl : ∀ k, ov.ownBlock = some k → k < W.heap.size := fun k hk => hI.opn.lt hk
  have hvl : ∀ u ∈ vs, ∀ k, u.ownBlock = some k → k < W.heap.size := fun u hu k hk => by obtain ⟨cs, hr⟩ := hI.rows.mem hu; exact hr.lt hk
  have hgl : ∀ k, g.ownBlock = some k → k < W.heap.size := fun k hk => hI.out.lt hk
  have hon' : ∀ u ∈ ov' :: us, ∀ k, u.ownBlock = some k → ow.ownBlock ≠ some k := fun u hu k hk h => by
    have q1 := hon k h
    have q2 := hol k h
    rcases hA.new u hu k hk with h' | h'
    · have := hovl k h'; omega
    · omega
  have hvo : ∀ u ∈ vs, ∀ k, u.ownBlock = some k → ov.ownBlock ≠ some k := fun u hu k hk h => (List.pairwise_cons.1 hI.apart).1 u hu k h hk
  have hvk : ∀ u ∈ vs, u.ownBlock ≠ some kb := fun u hu => by obtain ⟨cs, hr⟩ := hI.rows.mem hu; exact hI.cut.ne hr (by decide)
  have hc2 := hA.cut
  have c3 : CutB W3 kb cf s2.h ov' := hc2.fr f3 (hI.cut.ne hI.out (by decide))
  have o3 : Row W3 5 ov' (u8s s2.o) := hA.opn.fr f3 (fun q hq h => by
    rcases hA.new ov' (by simp) q hq with h' | h'
    · exact (hI.opn.ne_row hI.out (by decide) q h') h
    · have := hgl q h; omega)
  have ow1 : ow.ownBlock ≠ some kb := by intro h; have := hon kb h; omega
  have vs2 : Chs W2 vs s.out := (hI.rows.fr f1 (fun _ _ _ _ => id)).fr hA.fr (fun u hu k hk h => by
    rcases h with rfl | h
    · exact hvk u hu hk
    · exact hvo u hu k hk h)
  have vs3 : Chs W3 (vs ++ us) (s.out ++ s2.out) := (vs2.app hA.rows).fr f3 (fun u hu k hk h => by
    rcases List.mem_append.1 hu with hu | hu
    · obtain ⟨cs, hr⟩ := hI.rows.mem hu
      exact hr.ne_row hI.out (by decide) k hk h
    · rcases hA.new u (by simp [hu]) k hk with h' | h'
      · exact (hI.opn.ne_row hI.out (by decide) k h') h
      · have := hgl k h; omega)
  refine ⟨c3.fr f4 ow1, o3.fr f4 (fun q hq => hon' ov' (by simp) q hq), vs3.fr f4 (fun u hu k hk => ?_), hg.fr f4 (fun q hq h => ?_), ?_, ?_, ?_, hI.kbn, ?_, ?_⟩
  · rcases List.mem_append.1 hu with hu | hu
    · intro h
      have := hon k h
      have := hvl u hu k hk
      omega
    · exact hon' u (by simp [hu]) k hk
  · have q1 := hon q h
    have q2 := hol q h
    rcases hgo with h' | h'
    · rw [h'] at hq
      have := hgl q hq
      omega
    · rw [h'] at hq
      injection hq with hq
      omega
  · have w1 := hI.want.fr f1 (fun _ _ => id)
    have w2 := w1.fr hA.fr (fun q hq h => by
      rcases h with rfl | h
      · exact hI.cut.ne hI.want (by decide) hq
      · exact (hI.want.ne_row hI.opn (by decide) q hq) h)
    have w3 := w2.fr f3 (fun q hq h => (hI.want.ne_row hI.out (by decide) q hq) h)
    exact w3.fr f4 (fun q hq h => (w1.ne_row ho (by decide) q hq) h)
  · have := (List.pairwise_cons.1 hA.apart)
    have hap := (List.pairwise_cons.1 hI.apart)
    have old : ∀ u ∈ vs, ∀ u' ∈ ov' :: us, ∀ k, u.ownBlock = some k → u'.ownBlock ≠ some k := fun u hu u' hu' k hk hk' => by
      rcases hA.new u' hu' k hk' with h' | h'
      · exact hvo u hu k hk h'
      · have := hvl u hu k hk; omega
    refine List.pairwise_cons.2 ⟨fun u hu k hk hk' => ?_, List.pairwise_append.2 ⟨hap.2, this.2, fun u hu u' hu' k hk => old u hu u' (by simp [hu']) k hk⟩⟩
    rcases List.mem_append.1 hu with hu | hu
    · exact old u hu ov' (by simp) k hk' hk
    · exact this.1 u hu k hk hk'
  · refine (((hI.fr.trans f1 (fun _ _ h => h)).trans hA.fr (fun i hi h => ?_)).trans f3 (fun i hi h => ?_)).trans f4 (fun i hi h => ?_)
    · rcases h with rfl | h
      · have := hI.kbn; omega
      · have := hI.vsn ov (by simp) i h; omega
    · have := hI.gn i h; omega
    · have := hon i h; omega
  · intro u hu k hk
    rcases List.mem_cons.1 hu with rfl | hu
    · rcases hA.new u (by simp) k hk with h' | h'
      · exact hI.vsn ov (by simp) k h'
      · omega
    · rcases List.mem_append.1 hu with hu | hu
      · exact hI.vsn u (by simp [hu]) k hk
      · rcases hA.new u (by simp [hu]) k hk with h' | h'
        · exact hI.vsn ov (by simp) k h'
        · omega
  · intro k hk
    rcases hgo with h' | h'
    · rw [h'] at hk
      exact hI.gn k hk
    · rw [h'] at hk
      injection hk with hk
      omega
/-- What stands behind End: the cutter as it was made, all chunks from number k on as they came. -/
structure ZeI (w W : World) (kb : Nat) (cf : List Int) (wv : Value) (L : List Int) (g : Value) (vs : List Value) (css : List (List Int)) (k : Nat) : Prop where
  cut : CutB W kb cf [] (.slice none 0 0)
  len : vs.length = css.length
  rows : ∀ (i : Nat), k ≤ i → ∀ (v : Value), vs[i]? = some v → ∃ cs, css[i]? = some cs ∧ Row W 5 v (u8s cs)
  out : Row W 24 g vs
  want : Row W 3 wv (i64s L)
  apart : Apart vs
  fr : Fr (fun _ => False) w W
  kbn : w.heap.size ≤ kb
  vsn : ∀ u ∈ vs, ∀ k, u.ownBlock = some k → w.heap.size ≤ k
/-- End: nothing was open. -/
theorem PcI.end_none {w W W1 : World} {kb : Nat} {cf : List Int} {s : St} {wv : Value} {L : List Int} {ov g : Value} {vs : List Value} (hI : PcI w W kb cf s wv L ov g vs)
    (hC : CutB W1 kb cf [] (.slice none 0 0)) (hf : Fr (fun k => k = kb) W W1) : ZeI w W1 kb cf wv L g vs s.out 0 :=
  ⟨hC, hI.rows.1, fun i _ v hv => (hI.rows.fr hf (fun u hu k hk h => by obtain ⟨cs, hr⟩ := hI.rows.mem hu; subst h; exact hI.cut.ne hr (by decide) hk)).2 i v hv,
    hI.out.fr hf (fun q hq h => by subst h; exact hI.cut.ne hI.out (by decide) hq), hI.want.fr hf (fun q hq h => by subst h; exact hI.cut.ne hI.want (by decide) hq),
    (List.pairwise_cons.1 hI.apart).2, hI.fr.trans hf (fun i hi h => by have := hI.kbn; omega), hI.kbn, fun u hu => hI.vsn u (by simp [hu])⟩
/-- End: the open chunk was appended. -/
theorem PcI.end_some {w W W1 W2 : World} {kb : Nat} {cf : List Int} {s : St} {wv : Value} {L : List Int} {ov g g' : Value} {vs : List Value} (hI : PcI w W kb cf s wv L ov g vs)
    (hC : CutB W1 kb cf [] (.slice none 0 0)) (hf : Fr (fun k => k = kb) W W1) (hg : Row W2 24 g' (vs ++ [ov])) (hf2 : Fr (fun k => g.ownBlock = some k) W1 W2) : ZeI w W2 kb cf wv L g' (vs ++ [ov]) (s.out ++ [s.o]) 0 := by
  have k1 : ∀ u ∈ ov :: vs, ∀ k, u.ownBlock = some k → k ≠ kb ∧ g.ownBlock ≠ some k := by
    intro u hu k hk
    rcases List.mem_cons.1 hu with rfl | hu
    · exact ⟨fun h => by subst h; exact hI.cut.ne hI.opn (by decide) hk, hI.opn.ne_row hI.out (by decide) k hk⟩
    · obtain ⟨cs, hr⟩ := hI.rows.mem hu
      exact ⟨fun h => by subst h; exact hI.cut.ne hr (by decide) hk, hr.ne_row hI.out (by decide) k hk⟩
  have hrows := ((hI.rows.snoc hI.opn).fr hf (fun u hu k hk => (k1 u (by rcases List.mem_append.1 hu with hu | hu <;> simp_all) k hk).1)).fr hf2 (fun u hu k hk => (k1 u (by rcases List.mem_append.1 hu with hu | hu <;> simp_all) k hk).2)
  refine ⟨hC.fr hf2 (hI.cut.ne hI.out (by decide)), hrows.1, fun i _ v hv => hrows.2 i v hv, hg, ?_, ?_, ?_, hI.kbn, ?_⟩
  · exact (hI.want.fr hf (fun q hq h => by subst h; exact hI.cut.ne hI.want (by decide) hq)).fr hf2 (fun q hq => hI.want.ne_row hI.out (by decide) q hq)
  · have hap := (List.pairwise_cons.1 hI.apart)
    refine List.pairwise_append.2 ⟨hap.2, List.pairwise_cons.2 ⟨by simp, List.Pairwise.nil⟩, fun u hu u' hu' k hk hk' => ?_⟩
    rw [List.mem_singleton] at hu'
    subst hu'
    exact hap.1 u hu k hk' hk
  · exact (hI.fr.trans hf (fun i hi h => by have := hI.kbn; omega)).trans hf2 (fun i hi h => by have := hI.gn i h; omega)
  · intro u hu
    exact hI.vsn u (by rcases List.mem_append.1 hu with hu | hu <;> simp_all)
/-- A chunk was written over. -/
theorem ZeI.step {w W W1 : World} {kb : Nat} {cf : List Int} {wv : Value} {L : List Int} {g : Value} {vs : List Value} {css : List (List Int)} {k : Nat} (hI : ZeI w W kb cf wv L g vs css k)
    {v : Value} (hv : vs[k]? = some v) (hf : Fr (fun q => v.ownBlock = some q) W W1) : ZeI w W1 kb cf wv L g vs css (k + 1) := by
  obtain ⟨cs, _, hr⟩ := hI.rows k (Nat.le_refl _) v hv
  refine ⟨hI.cut.fr hf (hI.cut.ne hr (by decide)), hI.len, fun i hi u hu => ?_, hI.out.fr hf (fun q hq => hI.out.ne_row hr (by decide) q hq), hI.want.fr hf (fun q hq => hI.want.ne_row hr (by decide) q hq), hI.apart,
    hI.fr.trans hf (fun i hi h => by have := hI.vsn v (List.mem_of_getElem? hv) i h; omega), hI.kbn, hI.vsn⟩
  obtain ⟨cs', h1, h2⟩ := hI.rows i (by omega) u hu
  refine ⟨cs', h1, h2.fr hf (fun q hq h => ?_)⟩
  obtain ⟨l1, e1⟩ := List.getElem?_eq_some_iff.1 hv
  obtain ⟨l2, e2⟩ := List.getElem?_eq_some_iff.1 hu
  have := List.pairwise_iff_getElem.1 hI.apart k i l1 l2 (by omega)
  rw [e1, e2] at this
  exact this q h hq
end Go.Proofs.Yticlbmeldcncnaa

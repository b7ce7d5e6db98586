/- What is merged rises. Conditions: those of the lemmas. -/
import Derived.Test.YtcpnjlnphjnhnaaRMerge
namespace Go.Proofs.Ytcpnjlnphjnhnaa
open Go.RowKit
theorem sLt_le {x y z : ByteArray} (h1 : sLt y x = false) (h2 : sLt z y = false) : sLt z x = false := by
  cases h : sLt z x with
  | false => rfl
  | true =>
    by_cases e : y = z
    · subst e; rw [h] at h1; cases h1
    · have h3 := sLt_total (Ne.symm e) h2
      rw [sLt_trans h3 h] at h1
      cases h1
theorem better_le (b : Option En) (r : Rw) {z : En} (h : better b r = some z) : (∀ y, b = some y → sLt y.key z.key = false) ∧ ∀ y l, r.1 = y :: l → sLt y.key z.key = false := by
  obtain ⟨l, e⟩ := r
  cases l with
  | nil =>
    simp only [better] at h
    subst h
    exact ⟨fun y hy => by injection hy with hy; subst hy; exact sLt_irrefl _, fun y l hh => by cases hh⟩
  | cons x l =>
    cases b with
    | none =>
      simp only [better] at h
      injection h with h
      subst h
      exact ⟨fun y hy => (by cases hy), fun y l hh => by injection hh with hh _; subst hh; exact sLt_irrefl _⟩
    | some y =>
      simp only [better] at h
      split at h
      · rename_i hc
        injection h with h
        subst h
        exact ⟨fun y' hy => by injection hy with hy; subst hy; exact sLt_asymm hc, fun y l hh => by injection hh with hh _; subst hh; exact sLt_irrefl _⟩
      · rename_i hc
        injection h with h
        subst h
        exact ⟨fun y' hy => by injection hy with hy; subst hy; exact sLt_irrefl _, fun y' l hh => by injection hh with hh _; subst hh; simpa using hc⟩
theorem best_none : ∀ (rs : List Rw) (b : Option En), rs.foldl better b = none → b = none
  | [], b, h => h
  | r :: rs, b, h => by
    have := best_none rs _ h
    unfold better at this
    split at this
    · exact this
    · cases this
    · split at this <;> cases this
theorem best_low : ∀ (rs : List Rw) (b : Option En) (x : En), rs.foldl better b = some x → (∀ y, b = some y → sLt y.key x.key = false) ∧ ∀ r ∈ rs, ∀ y l, r.1 = y :: l → sLt y.key x.key = false
  | [], b, x, h => ⟨fun y hy => by rw [List.foldl_nil] at h; rw [h] at hy; injection hy with hy; subst hy; exact sLt_irrefl _, fun r hr => by simp at hr⟩
  | r :: rs, b, x, h => by
    rw [List.foldl_cons] at h
    obtain ⟨h1, h2⟩ := best_low rs _ x h
    cases hb : better b r with
    | none =>
      have hbn : b = none ∧ r.1 = [] := by
        unfold better at hb
        split at hb
        · rename_i hr; exact ⟨hb, hr⟩
        · cases hb
        · split at hb <;> cases hb
      refine ⟨fun y hy => (by rw [hbn.1] at hy; cases hy), fun r' hr' y l hh => ?_⟩
      rcases List.mem_cons.1 hr' with rfl | hr'
      · rw [hbn.2] at hh; cases hh
      · exact h2 r' hr' y l hh
    | some z =>
      obtain ⟨g1, g2⟩ := better_le b r hb
      have hz := h1 z hb
      refine ⟨fun y hy => sLt_le hz (g1 y hy), fun r' hr' y l hh => ?_⟩
      rcases List.mem_cons.1 hr' with rfl | hr'
      · exact sLt_le hz (g2 y l hh)
      · exact h2 r' hr' y l hh
theorem Mg.mem {rs : List Rw} {l : List En} {e : Int} (h : Mg rs l e) : ∀ x ∈ l, ∃ r ∈ rs, x ∈ r.1 := by
  induction h with
  | err => simp
  | fin => simp
  | @step rs x l e h1 hb hm ih =>
    intro y hy
    rcases List.mem_cons.1 hy with rfl | hy
    · rcases best_mem rs none y hb with h2 | ⟨r, hr, l', hl⟩
      · cases h2
      · exact ⟨r, hr, by rw [hl]; simp⟩
    · obtain ⟨r, hr, hx⟩ := ih y hy
      obtain ⟨r0, hr0, rfl⟩ := List.mem_map.1 hr
      refine ⟨r0, hr0, ?_⟩
      unfold dropK at hx
      split at hx
      · exact hx
      · rename_i x' l' hl
        rw [hl]
        split at hx
        · exact List.mem_cons_of_mem _ hx
        · rw [hl] at hx; exact hx
theorem dropK_ris {k : ByteArray} {r : Rw} (h : Ris r.1) : Ris (dropK k r).1 := by
  unfold dropK
  split
  · exact h
  · rename_i x l hl
    split
    · rw [hl] at h; exact h.cons.2
    · exact h
theorem dropK_low {x : En} {r : Rw} (h : Ris r.1) (hl : ∀ y l, r.1 = y :: l → sLt y.key x.key = false) : ∀ z ∈ (dropK x.key r).1, sLt x.key z.key = true := by
  intro z hz
  unfold dropK at hz
  split at hz
  · rename_i h0; rw [h0] at hz; simp at hz
  · rename_i y l hy
    have hlow := hl y l hy
    rw [hy] at h
    obtain ⟨h1, _⟩ := h.cons
    split at hz
    · rename_i he
      rw [← he]
      exact h1 z hz
    · rename_i he
      have hxy : sLt x.key y.key = true := sLt_total he hlow
      rw [hy] at hz
      rcases List.mem_cons.1 hz with rfl | hz
      · exact hxy
      · exact sLt_trans hxy (h1 z hz)
theorem Mg.ris {rs : List Rw} {l : List En} {e : Int} (h : Mg rs l e) : (∀ r ∈ rs, Ris r.1) → Ris l := by
  induction h with
  | err => intro _; simp [Ris]
  | fin => intro _; simp [Ris]
  | @step rs x l e h1 hb hm ih =>
    intro hr
    refine List.pairwise_cons.2 ⟨fun y hy => ?_, ih (fun r hr' => ?_)⟩
    · obtain ⟨r, hr1, hy⟩ := hm.mem y hy
      obtain ⟨r0, hr0, rfl⟩ := List.mem_map.1 hr1
      exact dropK_low (hr r0 hr0) (fun z l' hz => (best_low rs none x hb).2 r0 hr0 z l' hz) y hy
    · obtain ⟨r0, hr0, rfl⟩ := List.mem_map.1 hr'
      exact dropK_ris (hr r0 hr0)
theorem toldR_ris (rs : List RowD) : ∀ r ∈ rs.map toldR, Ris r.1 := fun r hr => by
  obtain ⟨r0, _, rfl⟩ := List.mem_map.1 hr
  exact told_rises _ _ _
theorem totR_toldR (n : Nat) : ∀ rs : List RowD, (∀ r ∈ rs, r.l.length ≤ n) → totR (rs.map toldR) ≤ rs.length * n
  | [], _ => by simp [totR]
  | r :: rs, h => by
    rw [List.map_cons, totR_cons]
    have h1 := told_len r.l none r.e
    have h2 := h r (by simp)
    have h3 := totR_toldR n rs (fun r hr => h r (by simp [hr]))
    rw [List.length_cons, Nat.add_mul, Nat.one_mul]
    simp only [toldR]
    omega
theorem ovs_merge {W0 W : World} {A : Option Addr} {cp : Nat} {rs : List RowD} {ds : List CD} (hO : OvsI W0 W (.slice A ds.length cp) rs ds) (hl : ds.length = rs.length) (hf : rs.length ≤ 1000) {L : List En} {E : Int} (hmg : Mg (rs.map toldR) L E) :
    Calls Try.prog 18 #[.slice A ds.length cp] W (Made W (fun k => W0.heap.size ≤ k ∧ k < W.heap.size ∧ ¬ (Value.slice A ds.length cp).ownBlock = some k) L E) := by
  obtain ⟨A', c', e, hrd⟩ := hO.row.rd
  rw [List.length_map] at e
  obtain ⟨rfl, _, rfl⟩ : A = A' ∧ True ∧ cp = c' := by
    injection e with e1 e2 e3
    exact ⟨e1, trivial, e3⟩
  have hmem : ∀ c ∈ ds.map some, ∃ d ∈ ds, c = some d := fun c hc => by
    obtain ⟨d, hd, rfl⟩ := List.mem_map.1 hc
    exact ⟨d, hd, rfl⟩
  have hM := merge_any (W := W) (A := A) (cp := cp) (cs := ds.map some) (rs := rs.map toldR) (l := L) (e := E) (by rw [List.map_map]; exact hrd)
    (fun d hd => by
      obtain ⟨d', hd', e⟩ := hmem _ hd
      injection e with e
      subst e
      exact hO.src d hd')
    (fun i j c c' hi hj hne k h1 h2 => by
      obtain ⟨d, hd, rfl⟩ := hmem c (List.mem_of_getElem? hi)
      obtain ⟨d', hd', rfl⟩ := hmem c' (List.mem_of_getElem? hj)
      have hi' : ds[i]? = some d := by simpa using hi
      have hj' : ds[j]? = some d' := by simpa using hj
      exact hO.dj i j d d' hi' hj' hne k h1 h2)
    (by simp [hl])
    (fun i c r hi hr => by
      obtain ⟨d, hd, rfl⟩ := hmem c (List.mem_of_getElem? hi)
      have hi' : ds[i]? = some d := by simpa using hi
      rw [List.getElem?_map] at hr
      obtain ⟨r0, hr0, rfl⟩ := Option.map_eq_some_iff.1 hr
      exact ⟨false, trivial, hO.st i d r0 hi' hr0⟩)
    (by simp; omega) hmg
  rw [List.length_map, told_none (hmg.ris (toldR_ris rs))] at hM
  refine hM.mono fun en W' ⟨d, h1, h2, h3, h4, h5⟩ => ⟨d, h1, h2, h3, h4, fun k hk => ?_⟩
  rcases h5 k hk with h | ⟨c, hc, hck⟩
  · exact .inl h
  · obtain ⟨d', hd', rfl⟩ := hmem c hc
    exact .inr ⟨hO.lo d' hd' k hck, hO.lt d' hd' k hck, fun hq => (hO.own k hq).2 d' hd' hck⟩
end Go.Proofs.Ytcpnjlnphjnhnaa

/- What a rising list holds at a key. Conditions: those of the lemmas. -/
import Derived.Test.YtcpnjlnphjnhnaaRisP
namespace Go.Proofs.Ytcpnjlnphjnhnaa
open Go.RowKit
def look (k : ByteArray) (l : List En) : Option En := l.find? fun x => decide (x.key = k)
theorem look_nil (k : ByteArray) : look k [] = none := rfl
theorem look_cons (k : ByteArray) (x : En) (l : List En) : look k (x :: l) = if x.key = k then some x else look k l := by
  unfold look
  rw [List.find?_cons]
  by_cases h : x.key = k <;> simp [h]
theorem look_mem {k : ByteArray} {l : List En} {x : En} (h : look k l = some x) : x ∈ l ∧ x.key = k := by
  refine ⟨List.mem_of_find?_eq_some h, ?_⟩
  have := List.find?_some h
  simpa using this
theorem look_none {k : ByteArray} {l : List En} (h : ∀ x ∈ l, x.key ≠ k) : look k l = none := by
  unfold look
  rw [List.find?_eq_none]
  intro x hx
  simpa using h x hx
theorem look_low {k : ByteArray} {l : List En} (h : ∀ x ∈ l, sLt k x.key = true) : look k l = none := look_none fun x hx e => by
  have := h x hx
  rw [e, sLt_irrefl] at this
  cases this
theorem ris_ext : ∀ (l l' : List En), Ris l → Ris l' → (∀ k, look k l = look k l') → l = l'
  | [], [], _, _, _ => rfl
  | [], y :: l', _, _, h => by
    have := h y.key
    rw [look_nil, look_cons, if_pos rfl] at this
    cases this
  | x :: l, [], _, _, h => by
    have := h x.key
    rw [look_nil, look_cons, if_pos rfl] at this
    cases this
  | x :: l, y :: l', h1, h2, h => by
    obtain ⟨a1, a2⟩ := h1.cons
    obtain ⟨b1, b2⟩ := h2.cons
    have hx := h x.key
    have hy := h y.key
    rw [look_cons, if_pos rfl, look_cons] at hx
    rw [look_cons, look_cons, if_pos rfl] at hy
    have e : x = y := by
      by_cases hk : y.key = x.key
      · rw [if_pos hk] at hx
        injection hx
      · rw [if_neg hk] at hx
        rw [if_neg (Ne.symm hk)] at hy
        have p := a1 y (look_mem hy).1
        have q := b1 x (look_mem hx.symm).1
        rw [sLt_asymm p] at q
        cases q
    subst e
    congr 1
    refine ris_ext l l' a2 b2 (fun k => ?_)
    by_cases hk : x.key = k
    · subst hk
      rw [look_low a1, look_low b1]
    · have := h k
      rw [look_cons, look_cons, if_neg hk, if_neg hk] at this
      exact this
/-- The first row that has this key. -/
def looks (k : ByteArray) (rs : List Rw) : Option En := rs.findSome? fun r => look k r.1
theorem looks_cons (k : ByteArray) (r : Rw) (rs : List Rw) : looks k (r :: rs) = (look k r.1).or (looks k rs) := by
  unfold looks
  rw [List.findSome?_cons]
  cases look k r.1 <;> rfl
theorem looks_app (k : ByteArray) (a b : List Rw) : looks k (a ++ b) = (looks k a).or (looks k b) := by
  unfold looks
  rw [List.findSome?_append]
theorem errOf_zero : ∀ rs : List Rw, (∀ r ∈ rs, r.2 = 0) → errOf rs = none
  | [], _ => rfl
  | r :: rs, h => by
    rw [errOf, if_neg (by simp [h r (by simp)])]
    exact errOf_zero rs (fun r hr => h r (by simp [hr]))
theorem best_empty : ∀ (rs : List Rw) (b : Option En), rs.foldl better b = none → ∀ r ∈ rs, r.1 = []
  | [], _, _ => by simp
  | r :: rs, b, h => by
    intro r' hr'
    rw [List.foldl_cons] at h
    rcases List.mem_cons.1 hr' with rfl | hr'
    · have h2 := best_none rs _ h
      unfold better at h2
      split at h2
      · assumption
      · cases h2
      · split at h2 <;> cases h2
    · exact best_empty rs _ h r' hr'
theorem best_first : ∀ (rs : List Rw) (b : Option En) (x : En), (∀ r ∈ rs, Ris r.1) → rs.foldl better b = some x → b = some x ∨ ((∀ y, b = some y → sLt x.key y.key = true) ∧ looks x.key rs = some x)
  | [], b, x, _, h => .inl h
  | r :: rs, b, x, hr, h => by
    rw [List.foldl_cons] at h
    have hlow := (best_low rs _ x h).1
    rcases best_first rs _ x (fun r hr' => hr r (by simp [hr'])) h with h2 | ⟨h2, h3⟩
    · rw [looks_cons]
      unfold better at h2
      split at h2
      · exact .inl h2
      · rename_i y l hy
        injection h2 with h2
        subst h2
        exact .inr ⟨fun y hy => (by cases hy), by rw [hy, look_cons, if_pos rfl]; rfl⟩
      · rename_i y l z hy
        split at h2
        · rename_i hlt
          injection h2 with h2
          subst h2
          exact .inr ⟨fun y' hy' => (by injection hy' with hy'; subst hy'; exact hlt), by rw [hy, look_cons, if_pos rfl]; rfl⟩
        · exact .inl h2
    · right
      rw [looks_cons, h3]
      obtain ⟨l, e⟩ := r
      cases hb : better b (l, e) with
      | none =>
        unfold better at hb
        split at hb
        · rename_i h0
          simp only at h0
          subst h0
          exact ⟨fun y hy => (by rw [hb] at hy; cases hy), rfl⟩
        · cases hb
        · split at hb <;> cases hb
      | some z =>
        obtain ⟨g1, g2⟩ := better_le b (l, e) hb
        have hz := h2 z hb
        have up : ∀ w : En, sLt w.key z.key = false → sLt x.key w.key = true := fun w hw => by
          by_cases ew : w.key = z.key
          · rw [ew]; exact hz
          · exact sLt_trans hz (sLt_total ew hw)
        refine ⟨fun y hy => up y (g1 y hy), ?_⟩
        cases l with
        | nil => rfl
        | cons w l =>
          have hw := up w (g2 w l rfl)
          have hRl := (hr (w :: l, e) (by simp))
          obtain ⟨c1, _⟩ := hRl.cons
          rw [look_low (fun u hu => by
            rcases List.mem_cons.1 hu with rfl | hu
            · exact hw
            · exact sLt_trans hw (c1 u hu))]
          rfl
theorem look_drop {k : ByteArray} {x : ByteArray} (h : k ≠ x) (r : Rw) : look k (dropK x r).1 = look k r.1 := by
  unfold dropK
  split
  · rfl
  · rename_i y l hy
    split
    · rename_i hk
      rw [hy, look_cons, if_neg (by rw [hk]; exact Ne.symm h)]
    · rfl
/-- What the merged list holds. -/
theorem Mg.look {rs : List Rw} {l : List En} {e : Int} (h : Mg rs l e) : (∀ r ∈ rs, Ris r.1 ∧ r.2 = 0) → e = 0 ∧ ∀ k, look k l = looks k rs := by
  induction h with
  | @err rs e h1 =>
    intro hr
    rw [errOf_zero rs (fun r h => (hr r h).2)] at h1
    cases h1
  | @fin rs h1 hb =>
    intro hr
    refine ⟨rfl, fun k => ?_⟩
    have he := best_empty rs none hb
    unfold looks
    rw [look_nil, eq_comm, List.findSome?_eq_none_iff]
    intro r h
    rw [he r h]
    rfl
  | @step rs x l e h1 hb hm ih =>
    intro hr
    obtain ⟨i1, i2⟩ := ih (fun r h => by
      obtain ⟨r0, hr0, rfl⟩ := List.mem_map.1 h
      refine ⟨dropK_ris (hr r0 hr0).1, ?_⟩
      have h0 := (hr r0 hr0).2
      unfold dropK
      split
      · exact h0
      · split
        · exact h0
        · exact h0)
    refine ⟨i1, fun k => ?_⟩
    rw [look_cons]
    by_cases hk : x.key = k
    · subst hk
      rw [if_pos rfl]
      rcases best_first rs none x (fun r h => (hr r h).1) hb with h2 | ⟨_, h3⟩
      · cases h2
      · exact h3.symm
    · rw [if_neg hk, i2 k]
      unfold looks
      rw [List.findSome?_map]
      congr 1
      funext r
      exact look_drop (Ne.symm hk) r
/-! ### rising -/
theorem ins_mem {z : En} : ∀ (a : List En) (y : En), y ∈ ins z a → y = z ∨ y ∈ a
  | [], y, h => by rw [ins] at h; simpa using h
  | x :: a, y, h => by
    rw [ins] at h
    split at h
    · rcases List.mem_cons.1 h with rfl | h
      · exact .inr (by simp)
      · rcases ins_mem a y h with h | h
        · exact .inl h
        · exact .inr (by simp [h])
    · split at h
      · rcases List.mem_cons.1 h with rfl | h
        · exact .inl rfl
        · exact .inr (by simp [h])
      · rcases List.mem_cons.1 h with rfl | h
        · exact .inl rfl
        · exact .inr h
theorem ins_ris {z : En} : ∀ (a : List En), Ris a → Ris (ins z a)
  | [], _ => by simp [ins, Ris]
  | x :: a, h => by
    obtain ⟨h1, h2⟩ := h.cons
    rw [ins]
    split
    · rename_i hlt
      refine List.pairwise_cons.2 ⟨fun y hy => ?_, ins_ris a h2⟩
      rcases ins_mem a y hy with rfl | hy
      · exact hlt
      · exact h1 y hy
    · rename_i hlt
      split
      · rename_i he
        exact List.pairwise_cons.2 ⟨fun y hy => (by rw [← he]; exact h1 y hy), h2⟩
      · rename_i he
        have hzx : sLt z.key x.key = true := sLt_total he (by simpa using hlt)
        refine List.pairwise_cons.2 ⟨fun y hy => ?_, h⟩
        rcases List.mem_cons.1 hy with rfl | hy
        · exact hzx
        · exact sLt_trans hzx (h1 y hy)
def Clean (l : List En) : Prop := ∀ x ∈ l, cl x = x
theorem cl_cl (x : En) : cl (cl x) = cl x := by
  unfold cl
  by_cases h : x.gone <;> simp [h]
theorem rising_fold : ∀ (l acc : List En), Ris acc → Clean acc → Ris (l.foldl (fun a x => ins (cl x) a) acc) ∧ Clean (l.foldl (fun a x => ins (cl x) a) acc)
  | [], acc, h1, h2 => ⟨h1, h2⟩
  | x :: l, acc, h1, h2 => by
    rw [List.foldl_cons]
    refine rising_fold l _ (ins_ris acc h1) (fun y hy => ?_)
    rcases ins_mem acc y hy with rfl | hy
    · exact cl_cl x
    · exact h2 y hy
theorem rising_ris (l : List En) : Ris (rising l) := (rising_fold l [] (by simp [Ris]) (fun x hx => by simp at hx)).1
theorem rising_clean (l : List En) : Clean (rising l) := (rising_fold l [] (by simp [Ris]) (fun x hx => by simp at hx)).2
theorem rising_id0 : ∀ (l acc : List En), Ris (acc ++ l) → Clean l → l.foldl (fun a x => ins (cl x) a) acc = acc ++ l
  | [], acc, _, _ => by simp
  | x :: l, acc, h, hc => by
    rw [List.foldl_cons, hc x (by simp)]
    have hp := List.pairwise_append.1 h
    have he : ins x acc = acc ++ [x] := by
      rw [ins_new acc acc.length (Nat.le_refl _) (fun k y _ hy => hp.2.2 y (List.mem_of_getElem? hy) x (by simp)) (fun y hy => by simp at hy)]
      simp
    rw [he, rising_id0 l (acc ++ [x]) (by simpa using h) (fun y hy => hc y (by simp [hy]))]
    simp
theorem rising_id {l : List En} (h : Ris l) (hc : Clean l) : rising l = l := rising_id0 l [] h hc
end Go.Proofs.Ytcpnjlnphjnhnaa

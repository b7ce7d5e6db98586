/- Slices of rows. Conditions: those of the lemmas. -/
import Derived.Test.YtcpnjlnphjnhnaaPartsP
import Derived.Test.YtcpnjlnphjnhnaaSame
import Derived.Laws.Slices
namespace Go.Proofs.Ytcpnjlnphjnhnaa
open Go.RowKit
theorem size24 (w : World) : (sizeOf (Try.prog.elem 27)).run Try.prog w = .ok 2 w := by
  kernel_rfl
theorem elem27 : Try.prog.underlying 27 = some (.slice (Try.prog.elem 27)) := by kernel_rfl
theorem sl_take (A : Option Addr) (n c m : Nat) (h1 : m ≤ n) (h2 : n ≤ c) (w : World) : (Instr.slice 27 (.slice A n c) none (some (.int .i64 (m : Int))) none).run Try.prog w = .ok (.slice A m c) w := by
  rw [run_slice_h (t := 27) (a := A) (len := n) (cap := c) (ht := elem27) (kh := .i64) (h := (m : Int)) (h0 := by omega) (h2 := by omega), size24]
  simp only [Result.andThen, sliced]
  congr 2
  · split
    · rfl
    · cases A with
      | none => rfl
      | some a => simp [Addr.add]
def dropA (A : Option Addr) (c m : Nat) : Option Addr := if c = m then A else A.map (·.add (m * 2))
theorem sl_drop (A : Option Addr) (n c m : Nat) (h1 : m ≤ n) (h2 : n ≤ c) (w : World) : (Instr.slice 27 (.slice A n c) (some (.int .i64 (m : Int))) none none).run Try.prog w = .ok (.slice (dropA A c m) (n - m) (c - m)) w := by
  rw [run_slice_l (t := 27) (a := A) (len := n) (cap := c) (ht := elem27) (kl := .i64) (l := (m : Int)) (h0 := by omega) (h1 := by omega), size24]
  simp only [Result.andThen, sliced, dropA, Int.toNat_natCast]
theorem RdR.take {W : World} {A : Option Addr} {rs : List RowD} (h : RdR W A rs) (m : Nat) : RdR W A (rs.take m) :=
  ⟨Rd.append (b := (rowsC (rs.drop m)).flatten) (by
    rw [← List.flatten_append]
    unfold rowsC
    rw [← List.map_append, List.take_append_drop]
    exact h.rd), fun r hr => h.es r (List.mem_of_mem_take hr)⟩
theorem RdR.drop {W : World} {A : Option Addr} {rs : List RowD} (h : RdR W A rs) (c m : Nat) (hm : m ≤ rs.length) (hc : rs.length ≤ c) : RdR W (dropA A c m) (rs.drop m) := by
  refine ⟨fun i v hv => ?_, fun r hr => h.es r (List.mem_of_mem_drop hr)⟩
  have e : (rowsC rs).flatten = (rowsC (rs.take m)).flatten ++ (rowsC (rs.drop m)).flatten := by
    rw [← List.flatten_append]
    unfold rowsC
    rw [← List.map_append, List.take_append_drop]
  have hlen : (rowsC (rs.take m)).flatten.length = m * 2 := by
    rw [flat_len _ (rowsC_two _)]
    simp [rowsC]
    omega
  obtain ⟨ad, rfl, hcc⟩ := h.rd (m * 2 + i) v (by rw [e, List.getElem?_append_right (by omega), hlen, show m * 2 + i - m * 2 = i by omega]; exact hv)
  have hne : c ≠ m := fun hcm => by
    have hrs : rs.length = m := by omega
    rw [List.drop_of_length_le (by omega)] at hv
    simp [rowsC] at hv
  refine ⟨ad.add (m * 2), by simp [dropA, hne], ?_⟩
  rw [add_add]
  exact hcc
theorem merge4 {W : World} {d1 d2 d3 : CD} (hd1 : SrcOk d1) (hd2 : SrcOk d2) (hd3 : SrcOk d3) {LA LB N : List En} (c1 : Cst d1 W LA 0 false) (c2 : Cst d2 W [] 0 false) (c3 : Cst d3 W LB 0 false)
    (h12 : ∀ k, d1.foot k → ¬ d2.foot k) (h13 : ∀ k, d1.foot k → ¬ d3.foot k) (h23 : ∀ k, d2.foot k → ¬ d3.foot k) (hmg : Mg [([], 0), (LA, 0), ([], 0), (LB, 0)] N 0) (hN : Ris N) :
    Calls Try.prog 18 #[.slice (some ⟨W.heap.size, 0, none⟩) 4 4] (W.alloc (.cells #[.pointer none, .pointer (some ⟨d1.cb, 0, none⟩), .pointer (some ⟨d2.cb, 0, none⟩), .pointer (some ⟨d3.cb, 0, none⟩)] 29)) (Made (W.alloc (.cells #[.pointer none, .pointer (some ⟨d1.cb, 0, none⟩), .pointer (some ⟨d2.cb, 0, none⟩), .pointer (some ⟨d3.cb, 0, none⟩)] 29)) (fun k => d1.foot k ∨ d2.foot k ∨ d3.foot k) N 0) := by
  have g := (Fr.refl (fun _ => False) W).alloc (.cells #[.pointer none, .pointer (some ⟨d1.cb, 0, none⟩), .pointer (some ⟨d2.cb, 0, none⟩), .pointer (some ⟨d3.cb, 0, none⟩)] 29)
  have hrd := Rd.at_new W ([none, some d1, some d2, some d3].map ptrC) 29 (0, 0) #[.pointer none, .pointer (some ⟨d1.cb, 0, none⟩), .pointer (some ⟨d2.cb, 0, none⟩), .pointer (some ⟨d3.cb, 0, none⟩)] rfl
  have k1 := c1.new hd1 g
  have k2 := c2.new hd2 g
  have k3 := c3.new hd3 g
  generalize W.alloc (.cells #[.pointer none, .pointer (some ⟨d1.cb, 0, none⟩), .pointer (some ⟨d2.cb, 0, none⟩), .pointer (some ⟨d3.cb, 0, none⟩)] 29) = W' at hrd k1 k2 k3 ⊢
  have hM := merge_any (W := W') (A := some ⟨W.heap.size, 0, none⟩) (cp := 4) (cs := [none, some d1, some d2, some d3]) (rs := [([], 0), (LA, 0), ([], 0), (LB, 0)]) (l := N) (e := 0) hrd
    (fun d hd => by
      simp only [List.mem_cons, List.not_mem_nil, or_false, Option.some.injEq, reduceCtorEq, false_or] at hd
      rcases hd with rfl | rfl | rfl
      · exact hd1
      · exact hd2
      · exact hd3)
    (fun i j c c' hi hj hne k p q => by
      match i, j with
      | 0, _ => simp at hi; subst hi; exact p.elim
      | _, 0 => simp at hj; subst hj; exact q.elim
      | 1, 1 => exact hne rfl
      | 2, 2 => exact hne rfl
      | 3, 3 => exact hne rfl
      | 1, 2 => simp at hi hj; subst hi hj; exact h12 k p q
      | 2, 1 => simp at hi hj; subst hi hj; exact h12 k q p
      | 1, 3 => simp at hi hj; subst hi hj; exact h13 k p q
      | 3, 1 => simp at hi hj; subst hi hj; exact h13 k q p
      | 2, 3 => simp at hi hj; subst hi hj; exact h23 k p q
      | 3, 2 => simp at hi hj; subst hi hj; exact h23 k q p
      | i + 4, _ => simp at hi
      | _, j + 4 => simp at hj)
    rfl
    (fun i c r hi hr => by
      match i with
      | 0 => simp at hi hr; subst hi hr; exact ⟨false, trivial, rfl⟩
      | 1 => simp at hi hr; subst hi hr; exact ⟨false, trivial, k1⟩
      | 2 => simp at hi hr; subst hi hr; exact ⟨false, trivial, k2⟩
      | 3 => simp at hi hr; subst hi hr; exact ⟨false, trivial, k3⟩
      | i + 4 => simp at hi)
    (by simp) hmg
  rw [told_none hN] at hM
  refine hM.mono fun en W'' ⟨d, h1, h2, h3, h4, h5⟩ => ⟨d, h1, h2, h3, h4, fun k hk => ?_⟩
  rcases h5 k hk with h | ⟨c, hc, hck⟩
  · exact .inl h
  · right
    simp only [List.mem_cons, List.not_mem_nil, or_false] at hc
    rcases hc with rfl | rfl | rfl | rfl
    · exact hck.elim
    · exact .inl hck
    · exact .inr (.inl hck)
    · exact .inr (.inr hck)
def ptrC' (d : CD) : Value := ptrC (some d)
theorem merge_twice {W0 W1 W2 W3 : World} {v1 v2 : Value} {A3 : Option Addr} {n3 c3 : Nat} {rs : List RowD} {ds1 ds2 : List CD} (hO1 : OvsI W0 W1 v1 rs ds1) (hO2 : OvsI W1 W2 v2 rs ds2) (hl1 : ds1.length = rs.length) (hl2 : ds2.length = rs.length) (hn3 : n3 = rs.length + rs.length)
    (hR : Row W3 29 (.slice A3 n3 c3) ((ds1.map fun d => ptrC (some d)) ++ (ds2.map fun d => ptrC (some d)))) (hf : Fr (fun q => v1.ownBlock = some q) W2 W3) (hfew : rs.length ≤ 1000) {N : List En} {E : Int} (hmg : Mg (rs.map toldR ++ rs.map toldR) N E) :
    Calls Try.prog 18 #[.slice A3 n3 c3] W3 (Made W3 (fun k => W0.heap.size ≤ k) N E) := by
  obtain ⟨A', c', e, hrd⟩ := hR.rd
  injection e with e1 e2 e3
  subst e1 e3
  have h12 : ∀ d ∈ ds1, ∀ d' ∈ ds2, ∀ k, d.foot k → ¬ d'.foot k := fun d hd d' hd' k p q => by
    have := hO1.lt d hd k p
    have := hO2.lo d' hd' k q
    omega
  have n1 : ∀ d ∈ ds1, ∀ k, d.foot k → ¬ v1.ownBlock = some k := fun d hd k hk hq => (hO1.own k hq).2 d hd hk
  have n2 : ∀ d ∈ ds2, ∀ k, d.foot k → ¬ v1.ownBlock = some k := fun d hd k hk hq => by
    have := hO1.row.lt hq
    have := hO2.lo d hd k hk
    omega
  have h1 := hO1.new hO2.fr
  have hcs : (ds1 ++ ds2).map ptrC' = (ds1.map fun d => ptrC (some d)) ++ (ds2.map fun d => ptrC (some d)) := List.map_append
  have hmem : ∀ c ∈ (ds1 ++ ds2).map some, ∃ d, (d ∈ ds1 ∨ d ∈ ds2) ∧ c = some d := fun c hc => by
    obtain ⟨d, hd, rfl⟩ := List.mem_map.1 hc
    exact ⟨d, List.mem_append.1 hd, rfl⟩
  have hat : ∀ (i : Nat) (c : Option CD), ((ds1 ++ ds2).map some)[i]? = some c → ∃ d, c = some d ∧ ((i < rs.length ∧ ds1[i]? = some d) ∨ (rs.length ≤ i ∧ ds2[i - rs.length]? = some d)) := fun i c hi => by
    rw [List.getElem?_map] at hi
    obtain ⟨d, hd, rfl⟩ := Option.map_eq_some_iff.1 hi
    refine ⟨d, rfl, ?_⟩
    by_cases hij : i < ds1.length
    · rw [List.getElem?_append_left hij] at hd
      exact .inl ⟨by omega, hd⟩
    · rw [List.getElem?_append_right (by omega), hl1] at hd
      exact .inr ⟨by omega, hd⟩
  have hM := merge_any (W := W3) (A := A3) (cp := c3) (cs := (ds1 ++ ds2).map some) (rs := rs.map toldR ++ rs.map toldR) (l := N) (e := E)
    (by rw [List.map_map]; exact hcs ▸ hrd)
    (fun d hd => by
      obtain ⟨d', hd', e⟩ := hmem _ hd
      injection e with e
      subst e
      rcases hd' with h | h
      · exact hO1.src d h
      · exact hO2.src d h)
    (fun i j c c' hi hj hne k p q => by
      obtain ⟨d, rfl, hd⟩ := hat i c hi
      obtain ⟨d', rfl, hd'⟩ := hat j c' hj
      rcases hd with ⟨_, hd⟩ | ⟨_, hd⟩
      · rcases hd' with ⟨_, hd'⟩ | ⟨_, hd'⟩
        · exact hO1.dj i j d d' hd hd' hne k p q
        · exact h12 d (List.mem_of_getElem? hd) d' (List.mem_of_getElem? hd') k p q
      · rcases hd' with ⟨_, hd'⟩ | ⟨_, hd'⟩
        · exact h12 d' (List.mem_of_getElem? hd') d (List.mem_of_getElem? hd) k q p
        · exact hO2.dj _ _ d d' hd hd' (by omega) k p q)
    (by simp [hl1, hl2])
    (fun i c r hi hr => by
      obtain ⟨d, rfl, hd⟩ := hat i c hi
      rcases hd with ⟨hlt, hd⟩ | ⟨hlt, hd⟩
      · rw [List.getElem?_append_left (by rw [List.length_map]; exact hlt), List.getElem?_map] at hr
        obtain ⟨r0, hr0, rfl⟩ := Option.map_eq_some_iff.1 hr
        exact ⟨false, trivial, (h1.st i d r0 hd hr0).fr (hO1.src d (List.mem_of_getElem? hd)) hf (n1 d (List.mem_of_getElem? hd))⟩
      · rw [List.getElem?_append_right (by rw [List.length_map]; exact hlt), List.length_map, List.getElem?_map] at hr
        obtain ⟨r0, hr0, rfl⟩ := Option.map_eq_some_iff.1 hr
        exact ⟨false, trivial, (hO2.st _ d r0 hd hr0).fr (hO2.src d (List.mem_of_getElem? hd)) hf (n2 d (List.mem_of_getElem? hd))⟩)
    (by simp [hl1, hl2]; omega) hmg
  rw [List.length_map, List.length_append, hl1, hl2, ← hn3, told_none (hmg.ris (fun r hr => by
    rcases List.mem_append.1 hr with hr | hr
    · exact toldR_ris rs r hr
    · exact toldR_ris rs r hr))] at hM
  refine hM.mono fun en W'' ⟨d, h1, h2, h3, h4, h5⟩ => ⟨d, h1, h2, h3, h4, fun k hk => ?_⟩
  rcases h5 k hk with h | ⟨c, hc, hck⟩
  · exact .inl h
  · obtain ⟨d', hd', rfl⟩ := hmem c hc
    right
    rcases hd' with hd' | hd'
    · exact hO1.lo d' hd' k hck
    · have := hO2.lo d' hd' k hck
      have := hO1.fr.size
      omega
end Go.Proofs.Ytcpnjlnphjnhnaa

/- The latest of a key: words. Conditions: those of the lemmas. -/
import Derived.Test.YtcpnjlnphjnhnaaPartsS
import Derived.Test.YtcpnjlnphjnhnaaRisW
namespace Go.Proofs.Ytcpnjlnphjnhnaa
open Go.RowKit
/-- One cursor more. -/
theorem OvsI.push {W w4 w9 : World} {v : Value} {rs : List RowD} {ds : List CD} {d : CD} {x : RowD} {B g9 c9 : Nat} (hO : OvsI W w4 v rs ds) (hd : SrcOk d) (hx : rs[ds.length]? = some x) (hc : Cst d w4 (told none x.l x.e).1 (told none x.l x.e).2 false)
    (hWB : W.heap.size ≤ B) (hlo4 : ∀ k, d.foot k → B ≤ k) (hltB : ∀ e ∈ ds, ∀ k, e.foot k → k < B) (hown : ∀ q, v.ownBlock = some q → q < B)
    (hR9 : Row w9 29 (.slice (some ⟨g9, 0, none⟩) (ds.length + 1) c9) ((ds.map fun d => ptrC (some d)) ++ [ptrC (some d)])) (hor9 : v.ownBlock = some g9 ∨ w4.heap.size < g9) (hf9 : Fr (fun k => v.ownBlock = some k) w4 w9) : OvsI W w9 (.slice (some ⟨g9, 0, none⟩) (ds.length + 1) c9) rs (ds ++ [d]) := by
  have hlt4 := hc.foot_lt
  have hB4 : ∀ e ∈ ds, ∀ k, e.foot k → ¬ d.foot k := fun e he k h1 h2 => by
    have := hltB e he k h1
    have := hlo4 k h2
    omega
  have hds : ∀ e ∈ ds ++ [d], ∀ k, e.foot k → ¬ v.ownBlock = some k := fun e he k hk hq => by
    rcases List.mem_append.1 he with he | he
    · exact (hO.own k hq).2 e he hk
    · rw [List.mem_singleton] at he
      subst he
      have := hown k hq
      have := hlo4 k hk
      omega
  have hat : ∀ (i : Nat) (e : CD), (ds ++ [d])[i]? = some e → (i < ds.length ∧ ds[i]? = some e) ∨ (i = ds.length ∧ e = d) := fun i e hi => by
    by_cases hij : i < ds.length
    · rw [List.getElem?_append_left hij] at hi
      exact .inl ⟨hij, hi⟩
    · rw [List.getElem?_append_right (by omega)] at hi
      have h0 : i - ds.length = 0 := by
        have := (List.getElem?_eq_some_iff.1 hi).1
        simp at this
        omega
      rw [h0] at hi
      simp at hi
      exact .inr ⟨by omega, hi.symm⟩
  refine ⟨?_, fun q hq => ?_, fun e he => ?_, fun i e r hi hr => ?_, fun i i' e e' hi hi' hne k h1 h2 => ?_, fun e he k hk => ?_, fun e he k hk => ?_, hO.fr.trans hf9 (fun i hi h => by have := (hO.own i h).1; omega)⟩
  · rw [List.map_append]
    exact hR9
  · have hq' : g9 = q := by simpa [Value.ownBlock] using hq
    subst hq'
    rcases hor9 with h | h
    · exact ⟨(hO.own _ h).1, fun e he hk => hds e he _ hk h⟩
    · refine ⟨by have := hO.fr.size; omega, fun e he hk => ?_⟩
      rcases List.mem_append.1 he with he | he
      · have := hO.lt e he _ hk; omega
      · rw [List.mem_singleton] at he
        subst he
        have := hlt4 _ hk; omega
  · rcases List.mem_append.1 he with he | he
    · exact hO.src e he
    · rw [List.mem_singleton] at he; subst he; exact hd
  · rcases hat i e hi with ⟨_, h⟩ | ⟨rfl, rfl⟩
    · have hm := List.mem_of_getElem? h
      exact (hO.st i e r h hr).fr (hO.src e hm) hf9 (hds e (by simp [hm]))
    · rw [hx] at hr
      injection hr with hr
      subst hr
      exact hc.fr hd hf9 (hds e (by simp))
  · rcases hat i e hi with ⟨_, h⟩ | ⟨rfl, rfl⟩
    · rcases hat i' e' hi' with ⟨_, h'⟩ | ⟨rfl, rfl⟩
      · exact hO.dj i i' e e' h h' hne k h1 h2
      · exact hB4 e (List.mem_of_getElem? h) k h1 h2
    · rcases hat i' e' hi' with ⟨_, h'⟩ | ⟨rfl, rfl⟩
      · exact hB4 e' (List.mem_of_getElem? h') k h2 h1
      · exact hne rfl
  · rcases List.mem_append.1 he with he | he
    · exact hO.lo e he k hk
    · rw [List.mem_singleton] at he; subst he; have := hlo4 k hk; omega
  · have hs9 := hf9.size
    rcases List.mem_append.1 he with he | he
    · have := hO.lt e he k hk; omega
    · rw [List.mem_singleton] at he; subst he; have := hlt4 k hk; omega
theorem ovs_merge2 {W0 W : World} {A : Option Addr} {cp : Nat} {rs : List RowD} {ds : List CD} (hO : OvsI W0 W (.slice A ds.length cp) rs ds) (hl : ds.length = rs.length) (hf : rs.length ≤ 1000) {L : List En} {E : Int} (hmg : Mg (rs.map toldR) L E) :
    Calls Try.prog 18 #[.slice A ds.length cp] W (Made W (fun k => ∃ d ∈ ds, d.foot k) L E) := by
  obtain ⟨A', c', e, hrd⟩ := hO.row.rd
  rw [List.length_map] at e
  obtain ⟨rfl, _, rfl⟩ : A = A' ∧ True ∧ cp = c' := by
    injection e with e1 e2 e3
    exact ⟨e1, trivial, e3⟩
  have hmem : ∀ c ∈ ds.map some, ∃ d ∈ ds, c = some d := fun c hc => by
    obtain ⟨d, hd, rfl⟩ := List.mem_map.1 hc
    exact ⟨d, hd, rfl⟩
  have hM := merge_any (W := W) (A := A) (cp := cp) (cs := ds.map some) (rs := rs.map toldR) (l := L) (e := E) (by rw [List.map_map]; exact hrd)
    (fun d hd => by
      obtain ⟨d', hd', e⟩ := hmem _ hd
      injection e with e
      subst e
      exact hO.src d hd')
    (fun i j c c' hi hj hne k h1 h2 => by
      obtain ⟨d, hd, rfl⟩ := hmem c (List.mem_of_getElem? hi)
      obtain ⟨d', hd', rfl⟩ := hmem c' (List.mem_of_getElem? hj)
      have hi' : ds[i]? = some d := by simpa using hi
      have hj' : ds[j]? = some d' := by simpa using hj
      exact hO.dj i j d d' hi' hj' hne k h1 h2)
    (by simp [hl])
    (fun i c r hi hr => by
      obtain ⟨d, hd, rfl⟩ := hmem c (List.mem_of_getElem? hi)
      have hi' : ds[i]? = some d := by simpa using hi
      rw [List.getElem?_map] at hr
      obtain ⟨r0, hr0, rfl⟩ := Option.map_eq_some_iff.1 hr
      exact ⟨false, trivial, hO.st i d r0 hi' hr0⟩)
    (by simp; omega) hmg
  rw [List.length_map, told_none (hmg.ris (toldR_ris rs))] at hM
  refine hM.mono fun en W' ⟨d, h1, h2, h3, h4, h5⟩ => ⟨d, h1, h2, h3, h4, fun k hk => ?_⟩
  rcases h5 k hk with h | ⟨c, hc, hck⟩
  · exact .inl h
  · obtain ⟨d', hd', rfl⟩ := hmem c hc
    exact .inr ⟨d', hd', hck⟩
/-! ### the latest -/
def exk (k : ByteArray) : ByteArray := k ++ ⟨#[120]⟩
def rowL (key : ByteArray) (x : LiD) : List En := rising (x.l ++ [⟨exk key, ⟨#[]⟩, false⟩])
def rowD (key : ByteArray) (x : LiD) : RowD := ⟨none, 0, rowL key x, 0⟩
def lkN (key : ByteArray) (ls : List LiD) (j : Nat) : Option En := looks key ((ls.take j).map fun x => (rowL key x, 0))
theorem lkN_succ {key : ByteArray} {ls : List LiD} {j : Nat} {x : LiD} (h : ls[j]? = some x) : lkN key ls (j + 1) = (lkN key ls j).or (look key (rowL key x)) := by
  unfold lkN
  rw [take_succ h, List.map_append, looks_app, List.map_singleton, looks_cons]
  cases look key (rowL key x) <;> rfl
theorem look_take {key : ByteArray} {l : List En} {t : Nat} {y : En} (h : l[t]? = some y) : look key (l.take (t + 1)) = (look key (l.take t)).or (if y.key = key then some y else none) := by
  rw [take_succ h]
  unfold look
  rw [List.find?_append]
  by_cases hk : y.key = key <;> simp [hk]
def latE (o : Option En) : En := o.getD En.zero
theorem rowD_toldR (key : ByteArray) (x : LiD) : toldR (rowD key x) = (rowL key x, 0) := by
  unfold toldR
  exact told_none (rising_ris _) 0
theorem rowL_len (key : ByteArray) (x : LiD) : (rowL key x).length ≤ x.l.length + 1 := by
  have := rising_len (x.l ++ [⟨exk key, ⟨#[]⟩, false⟩])
  simpa [rowL] using this
/-- A rising list has a key once. -/
theorem look_once {l : List En} (h : Ris l) {j : Nat} {x : En} (hx : l[j]? = some x) : look x.key l = some x ∧ look x.key (l.take j) = none := by
  have hj := (List.getElem?_eq_some_iff.1 hx).1
  have e : l = l.take j ++ x :: l.drop (j + 1) := by
    obtain ⟨_, he⟩ := List.getElem?_eq_some_iff.1 hx
    rw [← he, ← List.drop_eq_getElem_cons hj, List.take_append_drop]
  have hp : Ris (l.take j ++ x :: l.drop (j + 1)) := by rw [← e]; exact h
  have hlo := (List.pairwise_append.1 hp).2.2
  have hn : look x.key (l.take j) = none := look_none fun y hy he => by
    have := hlo y hy x (by simp)
    rw [he, sLt_irrefl] at this
    cases this
  refine ⟨?_, hn⟩
  conv => lhs; rw [e]
  unfold look at hn ⊢
  rw [List.find?_append, hn]
  simp
end Go.Proofs.Ytcpnjlnphjnhnaa

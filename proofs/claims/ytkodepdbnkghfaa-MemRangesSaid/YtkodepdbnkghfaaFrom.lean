/- From: a map's keys from one on, for a range. Conditions: those of the lemmas. -/
import Derived.Test.YtkodepdbnkghfaaMapS
import Derived.Test.YtkodepdbnkghfaaRange2
import Derived.Deep.LoopGhost
namespace Go.Proofs.Ytkodepdbnkghfaa
open Go.RowKit Go.Shelf
attribute [local go_sem] Oper.semAt_some
theorem from_any (q : Option Addr) (k : ByteArray) (W : World) : Calls Try.prog 10 #[.agg #[.pointer q], .string k] W fun e w' => ∃ mb kb, e = .returned (.func (.func 24) #[] #[.pointer (some ⟨mb, 0, none⟩), .pointer (some ⟨kb, 0, none⟩)]) ∧ Blk w' mb [.pointer q] 26 ∧ Blk w' kb [.string k] 9 ∧ Fr (fun _ => False) W w' := by
  have hmf : ∀ (fn : Fn) (first cap : Array Value) (w : World), (Instr.makeFunc fn first cap).run Try.prog w = .ok (.func fn first cap) w := fun _ _ _ _ => rfl
  go_enter Try.func10, Try.ntmps10
  go_wp2
  go_ret
  exact ⟨_, _, rfl, (Blk.at_new _ _ _ _ _ rfl rfl).alloc _, Blk.at_new _ _ _ _ _ (by simp) rfl, ((Fr.refl _ W).alloc _).alloc _⟩
/-- The block of a slice has the type of a walk's row. -/
def K24 (W : World) (v : Value) : Prop := ∀ g, v.ownBlock = some g → ∃ cur : Array Value, W.heap[g]? = some (.cells cur 24 (0, 0))
/-- What the body of a range keeps for the iterator; the body has a walk of its own at lwb. -/
structure KpM (lwb : Nat) (A B : World) : Prop where
  os : B.os = A.os
  tape : B.tape = A.tape
  output : B.output = A.output
  size : A.heap.size ≤ B.heap.size
  keep : ∀ v, Blk A lwb [v] 61 → K24 A v → ∃ v', Blk B lwb [v'] 61 ∧ K24 B v' ∧ (∀ g, v'.ownBlock = some g → v.ownBlock = some g ∨ A.heap.size ≤ g) ∧ ∀ (k : Nat) (cs : Array Value) (t : TypeId), (t = 61 ∨ t = 24 ∨ t = 63) → A.heap[k]? = some (.cells cs t (0, 0)) → k ≠ lwb → v.ownBlock ≠ some k → B.heap[k]? = some (.cells cs t (0, 0))
theorem KpM.trans {lwb : Nat} {A B C : World} (h : KpM lwb A B) (k : KpM lwb B C) : KpM lwb A C := by
  refine ⟨k.os.trans h.os, k.tape.trans h.tape, k.output.trans h.output, Nat.le_trans h.size k.size, fun v hv ht => ?_⟩
  obtain ⟨v1, b1, t1, o1, p1⟩ := h.keep v hv ht
  obtain ⟨v2, b2, t2, o2, p2⟩ := k.keep v1 b1 t1
  refine ⟨v2, b2, t2, fun g hg => ?_, fun i cs t ht hi hl ho => ?_⟩
  · rcases o2 g hg with h2 | h2
    · exact o1 g h2
    · have := h.size; right; omega
  · have hlt := (Array.getElem?_eq_some_iff.1 hi).1
    refine p2 i cs t ht (p1 i cs t ht hi hl ho) hl (fun h2 => ?_)
    rcases o1 i h2 with h3 | h3
    · exact ho h3
    · omega
theorem KpM.turn {lwb B0 : Nat} (W W' : World) (h : Fr (Turn B0 W) W W') : KpM lwb W W' :=
  ⟨h.os, h.tape, h.output, h.size, fun v hv ht => ⟨v, hv.turn h, fun g hg => by obtain ⟨cur, hc⟩ := ht g hg; exact ⟨cur, turn_cells h hc⟩, fun g hg => .inl hg, fun k cs t _ hk _ _ => turn_cells h hk⟩⟩
/-- What the iterator keeps for the body. -/
structure KqM (lwb B0 : Nat) (A B : World) : Prop where
  os : B.os = A.os
  tape : B.tape = A.tape
  output : B.output = A.output
  size : A.heap.size ≤ B.heap.size
  keep : ∀ (k : Nat) (o : Obj), A.heap[k]? = some o → (k < B0 ∨ o.isCells = false ∨ (∃ cs t fr, o = .cells cs t fr ∧ t ≠ 61 ∧ t ≠ 24) ∨ k = lwb ∨ ∃ v, Blk A lwb [v] 61 ∧ v.ownBlock = some k) → B.heap[k]? = some o
theorem KqM.of_fr {lwb B0 : Nat} {S : Nat → Prop} {A B : World} (h : Fr S A B) (hS : ∀ k, S k → k < A.heap.size → B0 ≤ k ∧ k ≠ lwb ∧ (∃ cs t, A.heap[k]? = some (.cells cs t (0, 0)) ∧ (t = 61 ∨ t = 24)) ∧ ∀ v, Blk A lwb [v] 61 → v.ownBlock ≠ some k) : KqM lwb B0 A B := by
  refine ⟨h.os, h.tape, h.output, h.size, fun k o ho hc => (h.block k (Array.getElem?_eq_some_iff.1 ho).1 (fun hs => ?_)).trans ho⟩
  obtain ⟨s1, s2, ⟨cs, t, s3, s4⟩, s5⟩ := hS k hs (Array.getElem?_eq_some_iff.1 ho).1
  rw [s3] at ho
  injection ho with ho
  subst ho
  rcases hc with c | c | ⟨cs', t', fr', e, c1, c2⟩ | c | ⟨v, c1, c2⟩
  · omega
  · cases c
  · injection e with _ e
    rcases s4 with s4 | s4
    · exact c1 (by rw [← e, s4])
    · exact c2 (by rw [← e, s4])
  · exact s2 c
  · exact s5 v c1 c2
theorem KqM.fr {lwb B0 : Nat} {A B : World} (h : KqM lwb B0 A B) : Fr (fun k => B0 ≤ k ∧ k ≠ lwb ∧ (∃ cs t fr, A.heap[k]? = some (.cells cs t fr) ∧ (t = 61 ∨ t = 24)) ∧ ∀ v, Blk A lwb [v] 61 → v.ownBlock ≠ some k) A B := by
  refine ⟨h.os, h.tape, h.output, h.size, fun k hk hn => ?_⟩
  obtain ⟨o, ho⟩ : ∃ o, A.heap[k]? = some o := ⟨_, Array.getElem?_eq_getElem hk⟩
  rw [ho]
  refine h.keep k o ho ?_
  by_cases c1 : k < B0
  · exact .inl c1
  · by_cases c2 : o.isCells = false
    · exact .inr (.inl c2)
    · cases o with
      | cells cs t fr =>
        by_cases c3 : t = 61 ∨ t = 24
        · by_cases c4 : k = lwb
          · exact .inr (.inr (.inr (.inl c4)))
          · refine .inr (.inr (.inr (.inr ?_)))
            refine Classical.byContradiction (fun c5 => hn ⟨by omega, c4, ⟨cs, t, fr, ho, c3⟩, fun v hv hw => c5 ⟨v, hv, hw⟩⟩)
        · exact .inr (.inr (.inl ⟨cs, t, fr, rfl, fun e => c3 (.inl e), fun e => c3 (.inr e)⟩))
      | _ => exact absurd rfl c2
/-- A walk of the iterator's, beside the body's. -/
structure It (lwb B0 wb : Nat) (rest : List (ByteArray × ByteArray)) (W : World) : Prop where
  lo : B0 ≤ wb
  ne : wb ≠ lwb
  wk : ∃ v v0, WkS W wb v rest ∧ (∀ k, v.ownBlock = some k → B0 ≤ k) ∧ Blk W lwb [v0] 61 ∧ K24 W v0 ∧ ∀ k, v0.ownBlock = some k → v.ownBlock ≠ some k
theorem It.kp {lwb B0 wb : Nat} {rest : List (ByteArray × ByteArray)} {A B : World} (h : It lwb B0 wb rest A) (hk : KpM lwb A B) : It lwb B0 wb rest B := by
  obtain ⟨h1, h2, v, v0, hw, ho, hb, ht, hd⟩ := h
  obtain ⟨v1, b1, t1, o1, p1⟩ := hk.keep v0 hb ht
  have hf : Fr (fun k => k = lwb ∨ v0.ownBlock = some k ∨ ∀ cs t, A.heap[k]? = some (.cells cs t (0, 0)) → ¬ (t = 61 ∨ t = 24 ∨ t = 63)) A B := by
    refine ⟨hk.os, hk.tape, hk.output, hk.size, fun k _ hn => ?_⟩
    have hex : ∃ cs t, A.heap[k]? = some (.cells cs t (0, 0)) ∧ (t = 61 ∨ t = 24 ∨ t = 63) := by
      refine Classical.byContradiction (fun hc => hn (.inr (.inr (fun cs t hh ht => hc ⟨cs, t, hh, ht⟩))))
    obtain ⟨cs, t, hh, ht⟩ := hex
    rw [hh]
    exact p1 k cs t ht hh (fun e => hn (.inl e)) (fun e => hn (.inr (.inl e)))
  have hlt := hw.lt
  obtain ⟨ps, ts, a, b, c, d⟩ := id hw
  refine ⟨h1, h2, v, v1, ?_, ho, b1, t1, fun k hk1 hk2 => ?_⟩
  · refine hw.fr hf ?_ ?_ ?_
    · rintro (e | e | e)
      · exact h2 e
      · obtain ⟨cur, hc⟩ := ht _ e
        exact kinds_ne hc a.out (by decide) rfl
      · exact e _ _ a.out (.inl rfl)
    · rintro k hk1 (e | e | e)
      · obtain ⟨cur, hc⟩ := b.kind hk1
        subst e
        exact kinds_ne hc hb.out (by decide) rfl
      · exact hd k e hk1
      · obtain ⟨cur, hc⟩ := b.kind hk1
        exact e _ _ hc (.inr (.inl rfl))
    · rintro q cs hq (e | e | e)
      · subst e
        exact kinds_ne hq.out hb.out (by decide) rfl
      · obtain ⟨cur, hc⟩ := ht _ e
        exact kinds_ne hc hq.out (by decide) rfl
      · exact e _ _ hq.out (.inr (.inr rfl))
  · rcases o1 k hk1 with h3 | h3
    · exact hd k h3 hk2
    · have := hlt.2 k hk2
      omega
/-- The iterator's step. -/
theorem It.step {lwb B0 wb : Nat} {x : ByteArray × ByteArray} {rest : List (ByteArray × ByteArray)} {W : World} (h : It lwb B0 wb (x :: rest) W) (hlen : rest.length ≤ 900000) :
    Calls Try.prog 23 #[.pointer (some ⟨wb, 0, none⟩)] W fun e w' => e = .returned (.tuple #[.string x.1, .string x.2, .bool true]) ∧ It lwb B0 wb rest w' ∧ KqM lwb B0 W w' := by
  obtain ⟨h1, h2, v, v0, hw, ho, hb, ht, hd⟩ := h
  refine (nextS_some hw hlen).mono ?_
  rintro e w' ⟨v', rfl, hw', hf, hn⟩
  obtain ⟨ps, ts, a, b, c, d⟩ := id hw
  refine ⟨rfl, ⟨h1, h2, v', v0, hw', fun k hk => ?_, hf.blk hb ?_, fun g hg => ?_, fun k hk hk2 => ?_⟩, KqM.of_fr hf (fun k hk hlt => ?_)⟩
  · rcases hn k hk with h3 | h3
    · exact ho k h3
    · have := hw.lt.1; omega
  · rintro (e | e)
    · exact h2 e.symm
    · obtain ⟨cur, hc⟩ := b.kind e
      exact kinds_ne hc hb.out (by decide) rfl
  · obtain ⟨cur, hc⟩ := ht g hg
    refine ⟨cur, (hf.block g (Array.getElem?_eq_some_iff.1 hc).1 ?_).trans hc⟩
    rintro (e | e)
    · subst e
      exact kinds_ne hc a.out (by decide) rfl
    · exact hd g hg e
  · rcases hn k hk2 with h3 | h3
    · exact hd k hk h3
    · obtain ⟨cur, hc⟩ := ht k hk
      have := (Array.getElem?_eq_some_iff.1 hc).1
      omega
  · rcases hk with rfl | hk
    · refine ⟨h1, h2, ⟨_, _, a.out, .inl rfl⟩, fun v2 hv2 e => ?_⟩
      have e2 := hb.out.symm.trans hv2.out
      simp at e2
      subst e2
      obtain ⟨cur, hc⟩ := ht _ e
      exact kinds_ne hc a.out (by decide) rfl
    · obtain ⟨cur, hc⟩ := b.kind hk
      refine ⟨ho k hk, fun e => ?_, ⟨_, _, hc, .inr rfl⟩, fun v2 hv2 e => ?_⟩
      · subst e
        exact kinds_ne hc hb.out (by decide) rfl
      · have e2 := hb.out.symm.trans hv2.out
        simp at e2
        subst e2
        exact hd k e hk
/-- What the iterator was told last. -/
def NxI (lwb B0 wb : Nat) (rest : List (ByteArray × ByteArray)) (k v ok : Value) (W : World) : Prop :=
  (rest = [] ∧ ok = .bool false) ∨ ∃ x rest', rest = x :: rest' ∧ k = .string x.1 ∧ v = .string x.2 ∧ ok = .bool true ∧ It lwb B0 wb rest' W
theorem It.next {lwb B0 wb : Nat} {rest : List (ByteArray × ByteArray)} {W : World} (h : It lwb B0 wb rest W) (hlen : rest.length ≤ 900000) :
    Calls Try.prog 23 #[.pointer (some ⟨wb, 0, none⟩)] W fun e w' => ∃ k v ok, e = .returned (.tuple #[k, v, ok]) ∧ KqM lwb B0 W w' ∧ NxI lwb B0 wb rest k v ok w' := by
  rcases rest with _ | ⟨x, rest⟩
  · obtain ⟨_, _, v, _, hw, _⟩ := h
    refine (nextS_end hw).mono ?_
    rintro e w' ⟨rfl, rfl⟩
    exact ⟨_, _, _, rfl, KqM.of_fr (Fr.refl (fun _ => False) _) (fun k hk => hk.elim), .inl ⟨rfl, rfl⟩⟩
  · refine (h.step (by simp only [List.length_cons] at hlen; omega)).mono ?_
    rintro e w' ⟨rfl, h2, h3⟩
    exact ⟨_, _, _, rfl, h3, .inr ⟨x, rest, rfl, rfl, rfl, rfl, h2⟩⟩
/-- The state of the iterator's loop; n elements are still to come. -/
def ItI (lwb B0 wb : Nat) (L : List (ByteArray × ByteArray)) (J : List (ByteArray × ByteArray) → World → Prop) (k v ok : Value) (W : World) (n : Nat) : Prop :=
  ∃ pre rest, L = pre ++ rest ∧ rest.length = n ∧ J pre W ∧ NxI lwb B0 wb rest k v ok W
def MGd (L pre : List (ByteArray × ByteArray)) (x : ByteArray × ByteArray) (_ : World) : Prop := ∃ rest, L = pre ++ x :: rest
set_option maxHeartbeats 1000000 in
set_option maxRecDepth 100000 in
theorem from_iter {m : Nat} (lwb B0 mb kb : Nat) {q : Option Addr} {t : Tr ByteArray} (key : ByteArray) (w : World) (hmb : Blk w mb [.pointer q] 26) (hkb : Blk w kb [.string key] 9) (hI : IsS w q t) (hs : Srt t.toL) (hc : t.cnt ≤ 900000)
    {v0 : Value} (hlw : Blk w lwb [v0] 61) (ht : K24 w v0) (hB0 : B0 ≤ w.heap.size)
    (l : Nat) (J Jx : List (ByteArray × ByteArray) → World → Prop) (W : World) (hW : Fr (fun _ => False) w W) (hJ : ∀ s A B, J s A → KqM lwb B0 A B → J s B)
    (hY : ∀ pre x W1, J pre W1 → MGd (lfrom t.toL key) pre x W1 → YieldAt Fence.wide (m - 1) Try.prog l #[.string x.1, .string x.2] W1 fun e W' => (e = .returned (.bool true) ∧ J (pre ++ [x]) W' ∧ KpM lwb W1 W') ∨ (e = .returned (.bool false) ∧ Jx (pre ++ [x]) W'))
    (h0 : J [] W) :
    CallsIn Fence.wide (m - 1) Try.prog 24 (#[.func (.yield l) #[] #[]] ++ #[.pointer (some ⟨mb, 0, none⟩), .pointer (some ⟨kb, 0, none⟩)]) W fun e W' => (∃ v, e = .returned v) ∧
      ((∃ xs, xs = lfrom t.toL key ∧ J xs W') ∨ (∃ pre, True ∧ Jx pre W')) := by
  have m0 := (hW.blk hmb id).cell 0 rfl
  have k0 := (hW.blk hkb id).cell 0 rfl
  have hlen : (lfrom t.toL key).length ≤ 900000 := by
    have := List.length_filter_le (fun p : ByteArray × ByteArray => !sLt p.1 key) t.toL
    rw [Tr.cnt_len] at hc
    exact Nat.le_trans this hc
  have CW := Lib.hid (walkS_any (hI.new hW) key hs hc)
  obtain ⟨L, hL⟩ : ∃ L, lfrom t.toL key = L := ⟨_, rfl⟩
  rw [hL] at CW hlen hY ⊢
  have HL := Lib.hid hL
  have hlwb := hlw.lt
  have hlw1 := hW.blk hlw id
  have ht1 : K24 W v0 := fun g hg => by obtain ⟨cur, hc⟩ := ht g hg; exact ⟨cur, (hW.block g (Array.getElem?_eq_some_iff.1 hc).1 id).trans hc⟩
  have hsz := hW.size
  clear hL hmb hkb hI hs hc hlw ht hW
  refine callsIn_of_wp Try.func24 rfl trivial ?_ rfl
  simp only [Try.ntmps24, List.size_toArray, List.length_cons, List.length_nil, Nat.reduceAdd, Nat.reduceSub, Array.replicate_succ, Array.replicate_zero, List.push_toArray, List.append_toArray, List.nil_append, List.cons_append]
  have nd : Fence.wide.depth.isSome = true → 1 ≤ m - 1 := fun h => by simp [Fence.wide] at h
  have ND := Lib.hid nd
  clear nd
  gi_wp2_with (fail)
  refine ⟨trivial, ND.out, (callsIn_wide.2 CW.out).mono ?_⟩
  rintro e W1 ⟨wb, v, rfl, hwk, hf1, hwb, hvb⟩
  have hit : It lwb B0 wb L W1 := ⟨by omega, by omega, v, v0, hwk, fun k hk => by have := hvb k hk; omega, hf1.blk hlw1 id, fun g hg => by
    obtain ⟨cur, hc⟩ := ht1 g hg
    exact ⟨cur, (hf1.block g (Array.getElem?_eq_some_iff.1 hc).1 id).trans hc⟩, fun k hk hk2 => by
    obtain ⟨cur, hc⟩ := ht1 k hk
    have := (Array.getElem?_eq_some_iff.1 hc).1
    have := hvb k hk2
    omega⟩
  have hJ1 : J [] W1 := hJ _ _ _ h0 (KqM.of_fr hf1 (fun k hk => hk.elim))
  clear CW h0 hwk hf1 hvb ht1 hlw1 m0 k0
  gi_wp2_with (fail)
  refine ⟨trivial, ND.out, (callsIn_wide.2 (hit.next hlen)).mono ?_⟩
  rintro e W2 ⟨k2, v2, ok2, rfl, hk2, hn2⟩
  have hJ2 := hJ _ _ _ hJ1 hk2
  clear hJ1 hk2 hit
  gi_wp2_with (fail)
  gi_loopw [5, 6, 7] (fun k v ok wr => ∃ n, ItI lwb B0 wb L J k v ok wr n) (fun k v ok wr => leastOf (ItI lwb B0 wb L J k v ok wr))
  case atStart => exact ⟨_, [], L, rfl, rfl, hJ2, hn2⟩
  case round =>
    obtain ⟨hspec, _⟩ := leastOf_spec hrel
    clear hrel hJ2 hn2
    obtain ⟨pre, rest, hLe, hln, hJp, hcase⟩ := hspec
    have HLe := Lib.hid (And.intro hLe hln)
    clear hLe hln
    rcases hcase with ⟨rfl, rfl⟩ | ⟨x, rest', rfl, rfl, rfl, rfl, hit⟩
    · gi_wp2
      refine ⟨fun f h => (by cases h), ?_⟩
      gi_wp2
      go_end0
      exact ⟨⟨_, rfl⟩, .inl ⟨pre, by rw [HLe.out.1, List.append_nil], hJp⟩⟩
    · obtain ⟨fn, tmps, assign, body, hy, hR⟩ := hY pre x wr hJp ⟨rest', HLe.out.1⟩
      gi_wp2_with (fail)
      refine ⟨ND.out, (roundIn_any hR).mono ?_⟩
      rintro e W5 (⟨rfl, hJ5, hk5⟩ | ⟨rfl, hJx5⟩)
      · have hit5 := hit.kp hk5
        have hl5 : rest'.length ≤ 900000 := by
          have := congrArg List.length HLe.out.1
          simp only [List.length_append, List.length_cons] at this
          omega
        clear hit hR hy hk5
        gi_wp2_with (fail)
        refine ⟨trivial, ND.out, (callsIn_wide.2 (hit5.next hl5)).mono ?_⟩
        rintro e W6 ⟨k6, v6, ok6, rfl, hk6, hn6⟩
        have hJ6 := hJ _ _ _ hJ5 hk6
        clear hJ5 hk6 hit5
        have hnew : ItI lwb B0 wb L J k6 v6 ok6 W6 rest'.length := ⟨pre ++ [x], rest', by rw [HLe.out.1]; simp, rfl, hJ6, hn6⟩
        have Hnew := Lib.hid hnew
        clear hnew
        gi_wp2
        go_roundw
        case rel => exact ⟨_, Hnew.out⟩
        case measure =>
          have h1 := (leastOf_spec ⟨_, Hnew.out⟩).2 _ Hnew.out
          have h2 := HLe.out.2
          simp only [List.length_cons] at h2
          omega
      · gi_wp2
        go_end0
        exact ⟨⟨_, rfl⟩, .inr ⟨pre ++ [x], trivial, hJx5⟩⟩
end Go.Proofs.Ytkodepdbnkghfaa

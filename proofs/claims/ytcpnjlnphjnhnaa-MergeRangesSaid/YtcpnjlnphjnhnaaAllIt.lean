/- All: what is left of a cursor, for a range. Conditions: those of the lemmas. -/
import Derived.Test.YtcpnjlnphjnhnaaMerges
import Derived.Test.YtcpnjlnphjnhnaaRange2
import Derived.Deep.LoopGhost
namespace Go.Proofs.Ytcpnjlnphjnhnaa
open Go.RowKit Go.Shelf
attribute [local go_sem] Oper.semAt_some
/-- What the iterator hands out. -/
def seqT (L : List En) (e : Int) : List (En × Int) := L.map (fun x => (x, 0)) ++ if e = 0 then [] else [(En.zero, e)]
def preT (L : List En) (k : Nat) : List (En × Int) := (L.take k).map fun x => (x, 0)
theorem preT_len {L : List En} {k : Nat} (h : k ≤ L.length) : (preT L k).length = k := by
  simp [preT]
  omega
theorem preT_succ {L : List En} {k : Nat} {x : En} (h : L[k]? = some x) : preT L (k + 1) = preT L k ++ [(x, 0)] := by
  unfold preT
  rw [take_succ h, List.map_append]
  rfl
theorem seqT_at {L : List En} {k : Nat} {x : En} (h : L[k]? = some x) (e : Int) : ∃ rest, seqT L e = preT L k ++ (x, 0) :: rest := by
  have hk := (List.getElem?_eq_some_iff.1 h).1
  refine ⟨(L.drop (k + 1)).map (fun x => (x, 0)) ++ if e = 0 then [] else [(En.zero, e)], ?_⟩
  unfold seqT preT
  have e1 : L = L.take k ++ x :: L.drop (k + 1) := by
    obtain ⟨_, he⟩ := List.getElem?_eq_some_iff.1 h
    rw [← he, ← List.drop_eq_getElem_cons hk, List.take_append_drop]
  conv => lhs; rw [e1]
  simp
theorem seqT_err (L : List En) {e : Int} (h : e ≠ 0) : seqT L e = preT L L.length ++ [(En.zero, e)] := by
  simp [seqT, preT, h]
theorem seqT_ok (L : List En) : seqT L 0 = preT L L.length := by simp [seqT, preT]
def AGd (d : CD) (L : List En) (e : Int) (pre : List (En × Int)) (x : En × Int) (W : World) : Prop := (∃ rest, seqT L e = pre ++ x :: rest) ∧ (pre.length < L.length → Cst d W (L.drop (pre.length + 1)) e false)
/-- The iterator's state: n are left. -/
def AIt (d : CD) (L : List En) (e : Int) (cpb : Nat) (J : List (En × Int) → World → Prop) (W : World) (n : Nat) : Prop := ∃ k pk, k ≤ L.length ∧ L.length - k = n ∧ J (preT L k) W ∧ Cst d W (L.drop k) e pk ∧ Blk W cpb [.pointer (some ⟨d.cb, 0, none⟩)] 29
set_option maxHeartbeats 2000000 in
set_option maxRecDepth 100000 in
theorem all_iter {m : Nat} {d : CD} (hd : SrcOk d) {L : List En} {e : Int} {pk : Bool} (cpb : Nat) (w : World) (hcp : Blk w cpb [.pointer (some ⟨d.cb, 0, none⟩)] 29) (hc : Cst d w L e pk) (hn : ¬ d.foot cpb)
    (l : Nat) (J Jx : List (En × Int) → World → Prop) (W : World) (hW : Fr (fun _ => False) w W) (hJ : ∀ s A B, J s A → Fr d.foot A B → J s B)
    (hY : ∀ pre x W1, J pre W1 → AGd d L e pre x W1 → YieldAt Fence.wide (m - 1) Try.prog l #[.agg #[.string x.1.key, .string x.1.val, .bool x.1.gone], .int .i64 x.2] W1 fun e' W' => (e' = .returned (.bool true) ∧ J (pre ++ [x]) W' ∧ Fr (fun k => ¬ (d.foot k ∨ k = cpb)) W1 W') ∨ (e' = .returned (.bool false) ∧ Jx (pre ++ [x]) W'))
    (h0 : J [] W) :
    CallsIn Fence.wide (m - 1) Try.prog 30 (#[.func (.yield l) #[] #[]] ++ #[.pointer (some ⟨cpb, 0, none⟩)]) W fun e' W' => (∃ v, e' = .returned v) ∧
      ((∃ xs, xs = seqT L e ∧ J xs W') ∨ (∃ pre, True ∧ Jx pre W')) := by
  have hcp1 := hW.blk hcp id
  have hc1 := hc.new hd hW
  have Hd := Lib.hid (And.intro hd hn)
  clear hcp hc hW hd hn
  refine callsIn_of_wp Try.func30 rfl trivial ?_ rfl
  simp only [Try.ntmps30, List.size_toArray, List.length_cons, List.length_nil, Nat.reduceAdd, Nat.reduceSub, Array.replicate_succ, Array.replicate_zero, List.push_toArray, List.append_toArray, List.nil_append, List.cons_append]
  have nd : Fence.wide.depth.isSome = true → 1 ≤ m - 1 := fun h => by simp [Fence.wide] at h
  have ND := Lib.hid nd
  clear nd
  gi_wp2_with (fail)
  gi_loopw [3, 4, 5] (fun _ _ _ wr => ∃ n, AIt d L e cpb J wr n) (fun _ _ _ wr => leastOf (AIt d L e cpb J wr))
  case atStart => exact ⟨L.length, 0, pk, Nat.zero_le _, rfl, h0, by simpa using hc1, hcp1⟩
  case round =>
    obtain ⟨hspec, _⟩ := leastOf_spec hrel
    clear hrel h0 hcp1 hc1
    obtain ⟨k, pk, hk, hkn, hJk, hC, hcp⟩ := hspec
    have HK := Lib.hid hkn
    clear hkn
    have c0 := hcp.cell 0 rfl
    by_cases hkl : k < L.length
    · have hx : L[k]? = some L[k] := List.getElem?_eq_getElem hkl
      rw [List.drop_eq_getElem_cons hkl] at hC
      generalize L[k] = x at hx hC
      have HN := Lib.hid (cnext_some Hd.out.1 hC)
      have HO := Lib.hid (And.intro hJk (And.intro hcp hx))
      clear hC hJk hcp hx
      gi_wp2_with (fail)
      refine ⟨trivial, ND.out, (callsIn_wide.2 HN.out).mono ?_⟩
      rintro e' w4 ⟨rfl, hC4, hf4⟩
      obtain ⟨hJk, hcp, hx⟩ := HO.out
      have ga := (Fr.refl (fun _ => False) w4).alloc (.cells #[.string x.key, .string x.val, .bool x.gone] 32)
      have hX := Blk.at_new w4 (enV x) 32 _ _ rfl rfl
      have hJ5 := hJ _ _ _ (hJ _ _ _ hJk hf4) (ga.mono (fun _ _ h => h.elim))
      have hcp5 := ga.blk (hf4.blk hcp Hd.out.2) id
      have hC5 := hC4.new Hd.out.1 ga
      clear hJk hcp hf4 hC4 ga HO HN
      gi_upto_region 1 with (fail)
      simp only [enV, List.toArray] at hX
      generalize w4.alloc (.cells #[.string x.key, .string x.val, .bool x.gone] 32) = w5 at hX hJ5 hcp5 hC5 ⊢
      have x0 := hX.cell 0 rfl
      have x1 := hX.cell 1 rfl
      have x2 := hX.cell 2 rfl
      obtain ⟨fn, tmps, assign, body, hy, hR⟩ := hY (preT L k) (x, 0) w5 hJ5 ⟨seqT_at hx e, fun _ => by rw [preT_len hk]; exact hC5⟩
      simp only at hy hR
      gi_wp2_with (fail)
      refine ⟨ND.out, (roundIn_any hR).mono ?_⟩
      have HC := Lib.hid (And.intro hcp5 (And.intro hC5 (preT_succ hx)))
      clear hR hy hcp5 hC5 hJ5 hX x0 x1 x2 hx hY
      rintro e' W6 (⟨rfl, hJ6, hk6⟩ | ⟨rfl, hJx6⟩)
      · obtain ⟨hcp5, hC5, hps⟩ := HC.out
        have hnew : AIt d L e cpb J W6 (L.length - (k + 1)) := ⟨k + 1, _, by omega, rfl, by rw [hps]; exact hJ6, hC5.fr Hd.out.1 hk6 (fun q hq hs => hs (.inl hq)), hk6.blk hcp5 (fun hs => hs (.inr rfl))⟩
        have Hnew := Lib.hid hnew
        clear hnew hcp5 hC5 hps hJ6 hk6 HC
        gi_wp2
        go_roundw
        case rel => exact ⟨_, Hnew.out⟩
        case measure =>
          have h1 := (leastOf_spec ⟨_, Hnew.out⟩).2 _ Hnew.out
          have h2 := HK.out
          omega
      · gi_wp2
        refine bodyPost_ret (results_none rfl _ _ _) rfl ?_
        exact ⟨⟨_, rfl⟩, .inr ⟨_, trivial, hJx6⟩⟩
    · obtain rfl : k = L.length := by omega
      rw [List.drop_length] at hC
      have HN := Lib.hid (cnext_end Hd.out.1 hC)
      have HO := Lib.hid hJk
      clear hC hJk hcp
      gi_wp2_with (fail)
      refine ⟨trivial, ND.out, (callsIn_wide.2 HN.out).mono ?_⟩
      rintro e' w4 ⟨rfl, hC4, hf4⟩
      have ga := (Fr.refl (fun _ => False) w4).alloc (.cells #[.string ⟨#[]⟩, .string ⟨#[]⟩, .bool false] 32)
      have hX := Blk.at_new w4 [.string ⟨#[]⟩, .string ⟨#[]⟩, .bool false] 32 _ _ rfl rfl
      have hJ5 := hJ _ _ _ (hJ _ _ _ HO.out hf4) (ga.mono (fun _ _ h => h.elim))
      clear hf4 hC4 ga HO HN
      gi_upto_region 1 with (fail)
      simp only [List.toArray] at hX
      generalize w4.alloc (.cells #[.string ⟨#[]⟩, .string ⟨#[]⟩, .bool false] 32) = w5 at hX hJ5 ⊢
      by_cases he : e = 0
      · subst he
        have HJ := Lib.hid hJ5
        clear hJ5 hX hY
        gi_wp2
        refine ⟨fun f h => (by cases h), ?_⟩
        gi_wp2
        refine bodyPost_ret (results_none rfl _ _ _) rfl ?_
        exact ⟨⟨_, rfl⟩, .inl ⟨_, rfl, by rw [seqT_ok]; exact HJ.out⟩⟩
      · have x0 := hX.cell 0 rfl
        have x1 := hX.cell 1 rfl
        have x2 := hX.cell 2 rfl
        have hse := seqT_err L he
        have hb1 : (e == 0) = false := by simpa using he
        have hb2 : (e != 0) = true := by simpa using he
        obtain ⟨fn, tmps, assign, body, hy, hR⟩ := hY (preT L L.length) (En.zero, e) w5 hJ5 ⟨⟨[], hse⟩, fun h => by rw [preT_len (Nat.le_refl _)] at h; omega⟩
        simp only [En.zero] at hy hR
        gi_wp2_with (fail)
        refine ⟨ND.out, (roundIn_any hR).mono ?_⟩
        have HS := Lib.hid hse
        clear hR hy hJ5 hX x0 x1 x2 hY hse
        rintro e' W6 (⟨rfl, hJ6, hk6⟩ | ⟨rfl, hJx6⟩)
        · have HJ := Lib.hid hJ6
          clear hJ6 hk6
          gi_wp2
          refine bodyPost_ret (results_none rfl _ _ _) rfl ?_
          exact ⟨⟨_, rfl⟩, .inl ⟨_, rfl, by rw [HS.out]; exact HJ.out⟩⟩
        · gi_wp2
          refine bodyPost_ret (results_none rfl _ _ _) rfl ?_
          exact ⟨⟨_, rfl⟩, .inr ⟨_, trivial, hJx6⟩⟩
end Go.Proofs.Ytcpnjlnphjnhnaa

/- Cursors that are merged: the source, walked. Conditions: those of the lemmas. -/
import Derived.Test.YtcpnjlnphjnhnaaMgPre
namespace Go.Proofs.Ytcpnjlnphjnhnaa
open Go.RowKit
def MgQ (ab : Nat) (v : Value) (cs : List (Option CD)) (W : World) (l : List En) (e : Int) (en : Ending) (W' : World) : Prop :=
  Fr (mgF ab v cs) W W' ∧ ((l = [] ∧ en = .returned (.tuple #[.agg #[.string ⟨#[]⟩, .string ⟨#[]⟩, .bool false], .bool false, .int .i64 e])) ∨ ∃ x l0, l = x :: l0 ∧ en = .returned (.tuple #[.agg #[.string x.key, .string x.val, .bool x.gone], .bool true, .int .i64 0]) ∧ MgI ab v cs W' l0 e)
/-- The best so far. -/
def BestP (cs : List (Option CD)) (rs : List Rw) (j : Nat) (b : Value) : Prop := match bestOf (rs.take j) with
  | none => b = .pointer none
  | some x => ∃ (i : Nat) (d : CD) (r : Rw) (l' : List En), i < j ∧ cs[i]? = some (some d) ∧ rs[i]? = some r ∧ r.1 = x :: l' ∧ b = .pointer (some ⟨d.cb, 0, none⟩)
theorem BestP.same {cs : List (Option CD)} {rs : List Rw} {j : Nat} {b : Value} (h : BestP cs rs j b) (hb : bestOf (rs.take (j + 1)) = bestOf (rs.take j)) : BestP cs rs (j + 1) b := by
  unfold BestP at *
  rw [hb]
  cases hbb : bestOf (rs.take j) with
  | none => rw [hbb] at h; exact h
  | some x =>
    rw [hbb] at h
    obtain ⟨i, d, r, l', a1, a2⟩ := h
    exact ⟨i, d, r, l', by omega, a2⟩
theorem BestP.new {cs : List (Option CD)} {rs : List Rw} {j : Nat} {x : En} {l' : List En} {re : Int} {d : CD} (hb : bestOf (rs.take (j + 1)) = some x) (hc : cs[j]? = some (some d)) (hr : rs[j]? = some (x :: l', re)) : BestP cs rs (j + 1) (.pointer (some ⟨d.cb, 0, none⟩)) := by
  unfold BestP
  rw [hb]
  exact ⟨j, d, _, l', by omega, hc, hr, rfl, rfl⟩
def upTo (k : ByteArray) (j : Nat) (rs : List Rw) : List Rw := rs.mapIdx fun i r => if i < j then dropK k r else r
theorem upTo_at (k : ByteArray) (j : Nat) (rs : List Rw) (i : Nat) : (upTo k j rs)[i]? = rs[i]?.map fun r => if i < j then dropK k r else r := by simp [upTo]
theorem upTo_end (k : ByteArray) (rs : List Rw) (n : Nat) (h : rs.length ≤ n) : upTo k n rs = rs.map (dropK k) := by
  refine List.ext_getElem? (fun i => ?_)
  rw [upTo_at, List.getElem?_map]
  by_cases hi : i < rs.length
  · rw [List.getElem?_eq_getElem hi]
    simp [show i < n by omega]
  · rw [List.getElem?_eq_none (by omega)]
    rfl
theorem upTo_ne (k : ByteArray) (j : Nat) (rs : List Rw) (i : Nat) (h : i ≠ j) : (upTo k (j + 1) rs)[i]? = (upTo k j rs)[i]? := by
  rw [upTo_at, upTo_at]
  congr 1
  funext r
  by_cases h1 : i < j
  · rw [if_pos h1, if_pos (by omega)]
  · rw [if_neg h1, if_neg (by omega)]
theorem upTo_same (k : ByteArray) (j : Nat) (rs : List Rw) : (upTo k (j + 1) rs)[j]? = rs[j]?.map (dropK k) := by
  rw [upTo_at]
  congr 1
  funext r
  rw [if_pos (by omega)]
theorem upTo_this (k : ByteArray) (j : Nat) (rs : List Rw) : (upTo k j rs)[j]? = rs[j]? := by
  rw [upTo_at]
  simp
set_option maxHeartbeats 4000000 in
set_option maxRecDepth 100000 in
theorem mg_any {ab : Nat} {v : Value} {cs : List (Option CD)} (hs : MgS ab v cs) {W : World} {l : List En} {e : Int} (h : MgI ab v cs W l e) : Calls Try.prog 28 #[.pointer (some ⟨ab, 0, none⟩)] W (MgQ ab v cs W l e) := by
  obtain ⟨hab, hrow, hfew, hlt, rs, hlen, hst, hmg⟩ := h
  have hr := Blk.at_new W [.string ⟨#[]⟩, .string ⟨#[]⟩, .bool false] 32 _ _ rfl rfl
  have g := (Fr.refl (fun _ => False) W).alloc (.cells #[.string ⟨#[]⟩, .string ⟨#[]⟩, .bool false] 32)
  have hab1 := g.blk hab id
  have hrow1 := hrow.fr g (fun _ _ => id)
  have hst1 := hst.fr hs g (fun _ _ _ _ => id)
  have hrf : ¬ mgF ab v cs W.heap.size := by
    rintro (h | h | ⟨c, hc, h⟩)
    · have := hab.lt; omega
    · have := hrow.lt h; omega
    · have := hlt c hc _ h; omega
  have Hs := Lib.hid hs
  have Hm := Lib.hid (And.intro hlen (And.intro hmg hlt))
  obtain ⟨A, cp, hv⟩ := hrow.slice
  rw [List.length_map] at hv
  subst hv
  have k0 := hab1.cell 0 rfl
  go_enter Try.func28, Try.ntmps28
  go_wp2_with fail
  simp only [List.toArray] at hr
  generalize W.alloc (.cells #[.string ⟨#[]⟩, .string ⟨#[]⟩, .bool false] 32) = w1 at hr g hab1 hrow1 hst1 k0 ⊢
  have g1 : Fr (mgF ab (.slice A cs.length cp) cs) W w1 := g.mono (fun _ _ h => h.elim)
  clear g hst hrow hab hs hlen hmg hlt k0
  generalize hrx : W.heap.size = rb at hr hrf ⊢
  have Hrx := Lib.hid hrx
  clear hrx
  go_loopw [4, 12] (fun b idx wr => ∃ (j : Nat), idx = .int .i64 j ∧ j ≤ cs.length ∧ Sts cs rs wr (fun i pk => i < j → pk = true) ∧ errOf (rs.take j) = none ∧ BestP cs rs j b ∧ Fr (mgF ab (.slice A cs.length cp) cs) W wr ∧ Blk wr rb [.string ⟨#[]⟩, .string ⟨#[]⟩, .bool false] 32 ∧ Blk wr ab [.slice A cs.length cp] 39 ∧ Row wr 29 (.slice A cs.length cp) (cs.map ptrC)) (fun _ idx _ => cs.length - (intOf idx).toNat)
  case atStart => exact ⟨0, rfl, Nat.zero_le _, fun i c r hi hr => by obtain ⟨pk, _, ho⟩ := hst1 i c r hi hr; exact ⟨pk, fun h => by omega, ho⟩, rfl, rfl, g1, hr, hab1, hrow1⟩
  case round =>
    clear hr g1 hst1 hab1 hrow1
    obtain ⟨j, rfl, hj, hS, hE, hB, hF, hR, hA, hrow⟩ := hrel
    by_cases hjn : j < cs.length
    · obtain ⟨hlen, hmg, hlt⟩ := Hm.out
      have hcj : cs[j]? = some cs[j] := List.getElem?_eq_getElem hjn
      have hrj : rs[j]? = some (rs[j]'(by omega)) := List.getElem?_eq_getElem _
      obtain ⟨pk, _, ho⟩ := hS j _ _ hcj hrj
      have hcell : (cs.map ptrC)[j]? = some (ptrC cs[j]) := by rw [List.getElem?_map, hcj]; rfl
      have hmem := List.getElem_mem hjn
      generalize cs[j] = c at hcj ho hcell hmem
      generalize rs[j]'(by omega) = r at hrj ho
      obtain ⟨gr, rfl, _⟩ := hrow.head (by omega)
      have c0 := hrow.cell j hcell
      have ka : (⟨gr, 0, none⟩ : Addr).add j = ⟨gr, j, none⟩ := add_plain _ _
      have ij : (j : Int) < (cs.length : Int) := by omega
      have ij0 : (0 : Int) ≤ (j : Int) := by omega
      have hEt := errOf_take hrj hE
      have hBt := bestOf_take hrj
      cases c with
      | none =>
        obtain rfl : r = ([], 0) := ho
        have hS4 : Sts cs rs wr (fun i pk => i < j + 1 → pk = true) := Sts.one Hs.out hcj hS (Fr.refl _ _) (fun _ _ => rfl) (fun i pk hne hK hi => hK (by omega)) (fun r hr => ⟨true, fun _ => rfl, by rw [hrj] at hr; injection hr with hr; exact hr.symm⟩)
        have hB4 : BestP cs rs (j + 1) u4 := hB.same (by rw [hBt]; rfl)
        have HH := Lib.hid (And.intro hS4 (And.intro (show errOf (rs.take (j + 1)) = none by rw [hEt]; rfl) (And.intro hB4 (And.intro hF (And.intro hR (And.intro hA hrow))))))
        simp only [ptrC] at c0
        clear hS hE hB hF hR hA hrow hS4 hB4 hEt hBt hcell hmem hcj hrj hmg hlt hlen
        go_wp2_with fail
        refine (fill_nil _).mono ?_
        rintro en w4 ⟨rfl, rfl⟩
        go_wp2
        go_roundw
        case rel => exact ⟨j + 1, by go_num, by omega, HH.out⟩
        case measure => simp [intOf]; omega
      | some d =>
        obtain ⟨rl, re⟩ := r
        have HF := Lib.hid (fill_any (Hs.out.src d hmem) ho)
        simp only [ptrC] at c0
        go_wp2_with fail
        refine HF.out.mono ?_
        rintro en w4 ⟨rfl, hC4, hf4⟩
        have hS4 : Sts cs rs w4 (fun i pk => i < j + 1 → pk = true) := Sts.one Hs.out hcj hS hf4 (fun _ _ => rfl) (fun i pk hne hK hi => hK (by omega)) (fun r hr => ⟨true, fun _ => rfl, by rw [hrj] at hr; injection hr with hr; rw [← hr]; exact hC4⟩)
        have hR4 := hf4.blk hR (fun h => hrf (.inr (.inr ⟨_, hmem, h⟩)))
        have hA4 := hf4.blk hA (Hs.out.ab _ hmem)
        have hrow4 := hrow.fr hf4 (fun k hk => Hs.out.row k hk _ hmem)
        have hF4 := hF.trans hf4 (fun _ _ h => .inr (.inr ⟨_, hmem, h⟩))
        have Hg := Lib.hid (And.intro hmg (And.intro hlt hlen))
        clear hS hF hR hA hrow hf4 HF ho c0 hmg hlt hlen hcell
        rcases rl with _ | ⟨x, rl⟩
        · simp only [List.isEmpty_nil, Bool.not_true]
          obtain ⟨h0, last, bg, hD⟩ := hC4.done
          have k5 := hD.cell 5 rfl
          by_cases hre : re = 0
          · subst hre
            have HH := Lib.hid (And.intro hS4 (And.intro (show errOf (rs.take (j + 1)) = none by rw [hEt]; rfl) (And.intro (hB.same (by rw [hBt]; rfl)) (And.intro hF4 (And.intro hR4 (And.intro hA4 hrow4))))))
            clear hE hB hEt hBt hS4 hF4 hR4 hA4 hrow4 hC4 hD hcj hrj hmem
            go_wp2
            go_roundw
            case rel => exact ⟨j + 1, by go_num, by omega, HH.out⟩
            case measure => simp [intOf]; omega
          · have herr := errOf_some hrj hE rfl hre
            obtain ⟨e1, e2⟩ := Hg.out.1.det (.err herr)
            simp only at e2
            subst e1
            subst e2
            have r0 := hR4.cell 0 rfl
            have r1 := hR4.cell 1 rfl
            have r2 := hR4.cell 2 rfl
            have f0 := hR4.free 0
            have f1 := hR4.free 1
            have f2 := hR4.free 2
            have hrl := hR4.lt
            have hne : rb ≠ d.cb := fun h => hrf (.inr (.inr ⟨_, hmem, .inl h⟩))
            have HH := Lib.hid (And.intro hR4 hF4)
            clear hE hB hEt hBt hS4 hF4 hR4 hA4 hrow4 hC4 hD hcj hrj hmem herr
            go_upto_region 7 with fail
            go_region
            go_wp2
            refine bodyPost_ret (results_en rfl _ _ rb _ _ _ _ _ rfl (((HH.out.1.set 0 _).set 1 _).set 2 _).drew rfl rfl) rfl ⟨?_, .inl ⟨rfl, rfl⟩⟩
            exact (((HH.out.2.setCell _ _ (fun h => by have := Hrx.out; simp only at h; omega)).setCell _ _ (fun h => by have := Hrx.out; simp only at h; omega)).setCell _ _ (fun h => by have := Hrx.out; simp only at h; omega)).drew
        · simp only [List.isEmpty_cons, Bool.not_false]
          have hP := hC4.peek
          have k1 := hP.cell 1 rfl
          have hEn : errOf (rs.take (j + 1)) = none := by rw [hEt]; rfl
          have HH := Lib.hid (And.intro hS4 (And.intro hEn (And.intro hF4 (And.intro hR4 (And.intro hA4 hrow4)))))
          cases hbb : bestOf (rs.take j) with
          | none =>
            have hu : u4 = .pointer none := by unfold BestP at hB; rw [hbb] at hB; exact hB
            subst hu
            have HB := Lib.hid (BestP.new (cs := cs) (d := d) (by rw [hBt, hbb]; rfl) hcj hrj)
            clear hE hB hEt hBt hS4 hF4 hR4 hA4 hrow4 hC4 hP hcj hrj hmem hEn hbb
            go_upto_region 8 with fail
            go_quiet (fail)
            go_wp2
            go_roundw
            case rel => exact ⟨j + 1, by go_num, by omega, HH.out.1.fr Hs.out ((Fr.refl (fun _ => False) w4).drewN nq) (fun _ _ _ _ => id), HH.out.2.1, HB.out, HH.out.2.2.1.drewN nq, HH.out.2.2.2.1.drewN nq, HH.out.2.2.2.2.1.drewN nq, HH.out.2.2.2.2.2.drewN nq⟩
            case measure => simp [intOf]; omega
          | some y =>
            have hB2 := hB
            unfold BestP at hB2
            rw [hbb] at hB2
            obtain ⟨i, di, ri, l', hij, hci, hri, hry, rfl⟩ := hB2
            obtain ⟨pk2, hk2, ho2⟩ := hS4 i _ _ hci hri
            obtain rfl := hk2 (by omega)
            have ho3 : Cst di w4 ri.1 ri.2 true := ho2
            rw [hry] at ho3
            have k2 := ho3.peek.cell 1 rfl
            cases hlt2 : sLt x.key y.key with
            | true =>
              have h7 : Op.bytesLess x.key.toList y.key.toList = true := hlt2
              have HB := Lib.hid (BestP.new (cs := cs) (d := d) (x := x) (by rw [hBt, hbb]; simp [better, hlt2]) hcj hrj)
              clear hE hB hEt hBt hS4 hF4 hR4 hA4 hrow4 hC4 hP hcj hrj hmem hEn hbb ho2 ho3 hci hri hry hlt2
              go_upto_region 8 with fail
              go_quiet (fail)
              go_wp2
              go_roundw
              case rel => exact ⟨j + 1, by go_num, by omega, HH.out.1.fr Hs.out ((Fr.refl (fun _ => False) w4).drewN nq) (fun _ _ _ _ => id), HH.out.2.1, HB.out, HH.out.2.2.1.drewN nq, HH.out.2.2.2.1.drewN nq, HH.out.2.2.2.2.1.drewN nq, HH.out.2.2.2.2.2.drewN nq⟩
              case measure => simp [intOf]; omega
            | false =>
              have h7 : Op.bytesLess x.key.toList y.key.toList = false := hlt2
              have HB := Lib.hid (hB.same (by rw [hBt, hbb]; simp [better, hlt2]))
              clear hE hB hEt hBt hS4 hF4 hR4 hA4 hrow4 hC4 hP hcj hrj hmem hEn hbb ho2 ho3 hci hri hry hlt2
              go_upto_region 8 with fail
              go_quiet (fail)
              go_wp2
              go_roundw
              case rel => exact ⟨j + 1, by go_num, by omega, HH.out.1.fr Hs.out ((Fr.refl (fun _ => False) w4).drewN nq) (fun _ _ _ _ => id), HH.out.2.1, HB.out, HH.out.2.2.1.drewN nq, HH.out.2.2.2.1.drewN nq, HH.out.2.2.2.2.1.drewN nq, HH.out.2.2.2.2.2.drewN nq⟩
              case measure => simp [intOf]; omega
    · obtain rfl : j = cs.length := by omega
      obtain ⟨hlen, hmg, hlt⟩ := Hm.out
      have htk : rs.take cs.length = rs := by rw [← hlen, List.take_length]
      rw [htk] at hE
      unfold BestP at hB
      rw [htk] at hB
      clear htk hjn hj
      cases hbb : bestOf rs with
      | none =>
        rw [hbb] at hB
        simp only at hB
        subst hB
        obtain ⟨e1, e2⟩ := hmg.det (.fin hE hbb)
        subst e1
        subst e2
        have r0 := hR.cell 0 rfl
        have r1 := hR.cell 1 rfl
        have r2 := hR.cell 2 rfl
        have f0 := hR.free 0
        have f1 := hR.free 1
        have f2 := hR.free 2
        have hrl := hR.lt
        have HH := Lib.hid (And.intro hR hF)
        clear hS hE hbb hmg hlt hlen hF hR hA hrow
        go_wp2
        refine bodyPost_ret (results_en rfl _ _ rb _ _ _ _ _ rfl (((HH.out.1.set 0 _).set 1 _).set 2 _) rfl rfl) rfl ⟨?_, .inl ⟨rfl, rfl⟩⟩
        exact ((HH.out.2.setCell _ _ (fun h => by have := Hrx.out; simp only at h; omega)).setCell _ _ (fun h => by have := Hrx.out; simp only at h; omega)).setCell _ _ (fun h => by have := Hrx.out; simp only at h; omega)
      | some x =>
        rw [hbb] at hB
        obtain ⟨i, di, ri, l', hij, hci, hri, hry, rfl⟩ := hB
        obtain ⟨l0, e0, hm0⟩ := Mg.ex _ (rs.map (dropK x.key)) (Nat.le_refl _)
        obtain ⟨e1, e2⟩ := hmg.det (.step hE hbb hm0)
        subst e1
        subst e2
        obtain ⟨pk2, hk2, ho2⟩ := hS i _ _ hci hri
        obtain rfl := hk2 hij
        have ho3 : Cst di wr ri.1 ri.2 true := ho2
        rw [hry] at ho3
        have k1 := ho3.peek.cell 1 rfl
        have k2 := ho3.peek.cell 2 rfl
        have k3 := ho3.peek.cell 3 rfl
        have a0 := hA.cell 0 rfl
        have hX := Blk.at_new wr (enV x) 32 _ _ rfl rfl
        have ga := (Fr.refl (fun _ => False) wr).alloc (.cells #[.string x.key, .string x.val, .bool x.gone] 32)
        have hS1 : Sts cs (upTo x.key 0 rs) (wr.alloc (.cells #[.string x.key, .string x.val, .bool x.gone] 32)) (fun i pk => 0 ≤ i → pk = true) := by
          intro i c r hi hr
          rw [upTo_at] at hr
          have e : (fun r : Rw => if i < 0 then dropK x.key r else r) = id := by funext r; simp
          rw [e, Option.map_id] at hr
          obtain ⟨pk, hk, ho⟩ := hS i c r hi hr
          have hil := (List.getElem?_eq_some_iff.1 hi).1
          exact ⟨pk, fun _ => hk hil, ho.fr (fun d e => Hs.out.src d (by rw [← e]; exact List.mem_of_getElem? hi)) ga (fun _ _ => id)⟩
        have HM := Lib.hid (And.intro hm0 (And.intro hlen hlt))
        have hR1 := ga.blk hR id
        have hA1 := ga.blk hA id
        have a0' := hA1.cell 0 rfl
        have hrow1 := hrow.fr ga (fun _ _ => id)
        have hF1 := hF.alloc (.cells #[.string x.key, .string x.val, .bool x.gone] 32)
        have hxf : ¬ mgF ab (.slice A cs.length cp) cs wr.heap.size := by
          rintro (h | h | ⟨c, hc, h⟩)
          · have := hA.lt; omega
          · have := hrow.lt h; omega
          · have := hlt c hc _ h; have := hF.size; omega
        clear hS hE hbb hmg hlt hlen hF hR hA hrow ho2 ho3 hci hri hry hm0 ga
        go_wp2_with fail
        simp only [enV, List.toArray] at hX
        generalize wr.alloc (.cells #[.string x.key, .string x.val, .bool x.gone] 32) = w5 at hX hS1 hR1 hA1 hrow1 hF1 ⊢
        generalize hxe : wr.heap.size = xb at hX hxf ⊢
        clear hxe k1 k2 k3 a0 a0'
        go_loopw [61] (fun idx wr => ∃ (j : Nat), idx = .int .i64 j ∧ j ≤ cs.length ∧ Sts cs (upTo x.key j rs) wr (fun i pk => j ≤ i → pk = true) ∧ Fr (mgF ab (.slice A cs.length cp) cs) W wr ∧ Blk wr rb [.string ⟨#[]⟩, .string ⟨#[]⟩, .bool false] 32 ∧ Blk wr xb [.string x.key, .string x.val, .bool x.gone] 32 ∧ Blk wr ab [.slice A cs.length cp] 39 ∧ Row wr 29 (.slice A cs.length cp) (cs.map ptrC)) (fun idx _ => cs.length - (intOf idx).toNat)
        case atStart => exact ⟨0, rfl, Nat.zero_le _, hS1, hF1, hR1, hX, hA1, hrow1⟩
        case round =>
          clear hS1 hF1 hR1 hX hA1 hrow1
          obtain ⟨j, rfl, hj, hS, hF, hR, hX, hA, hrow⟩ := hrel
          have x0 := hX.cell 0 rfl
          by_cases hjn : j < cs.length
          · have hcj : cs[j]? = some cs[j] := List.getElem?_eq_getElem hjn
            have hrj : rs[j]? = some (rs[j]'(by rw [HM.out.2.1]; exact hjn)) := List.getElem?_eq_getElem _
            have hcell : (cs.map ptrC)[j]? = some (ptrC cs[j]) := by rw [List.getElem?_map, hcj]; rfl
            have hmem := List.getElem_mem hjn
            generalize cs[j] = c at hcj hcell hmem
            generalize rs[j]'(by rw [HM.out.2.1]; exact hjn) = r at hrj
            obtain ⟨pk, hk, ho⟩ := hS j _ _ hcj (by rw [upTo_this]; exact hrj)
            obtain rfl := hk (Nat.le_refl _)
            obtain ⟨gr, rfl, _⟩ := hrow.head (by omega)
            have c0 := hrow.cell j hcell
            have ka : (⟨gr, 0, none⟩ : Addr).add j = ⟨gr, j, none⟩ := add_plain _ _
            have ij : (j : Int) < (cs.length : Int) := by omega
            have ij0 : (0 : Int) ≤ (j : Int) := by omega
            have stay : dropK x.key r = r → Sts cs (upTo x.key (j + 1) rs) wr (fun i pk => j + 1 ≤ i → pk = true) := fun hdr =>
              Sts.one Hs.out hcj hS (Fr.refl _ _) (fun i hi => upTo_ne _ _ _ _ hi) (fun i pk hne hK hi => hK (by omega)) (fun r' hr' => ⟨true, fun _ => rfl, by
                rw [upTo_same, hrj, Option.map_some, hdr] at hr'
                injection hr' with hr'
                rw [← hr']
                exact ho⟩)
            cases c with
            | none =>
              obtain rfl : r = ([], 0) := ho
              have HS := Lib.hid (stay rfl)
              have HH := Lib.hid (And.intro hF (And.intro hR (And.intro hX (And.intro hA hrow))))
              simp only [ptrC] at c0
              clear stay hS hF hR hX hA hrow hcj hrj hcell hmem hk
              go_upto_region 17 with fail
              go_quiet (fail)
              go_wp2
              go_roundw
              case rel => exact ⟨j + 1, by go_num, by omega, HS.out.fr Hs.out ((Fr.refl (fun _ => False) wr).drewN nq) (fun _ _ _ _ => id), HH.out.1.drewN nq, HH.out.2.1.drewN nq, HH.out.2.2.1.drewN nq, HH.out.2.2.2.1.drewN nq, HH.out.2.2.2.2.drewN nq⟩
              case measure => simp [intOf]; omega
            | some d =>
              obtain ⟨rl, re⟩ := r
              have ho2 : Cst d wr rl re true := ho
              simp only [ptrC] at c0
              rcases rl with _ | ⟨y, rl⟩
              · obtain ⟨h0, last, bg, hD⟩ := ho2.done
                have k4 := hD.cell 4 rfl
                have HS := Lib.hid (stay rfl)
                have HH := Lib.hid (And.intro hF (And.intro hR (And.intro hX (And.intro hA hrow))))
                clear stay hS hF hR hX hA hrow hcj hrj hcell hmem ho ho2 hk hD
                go_upto_region 17 with fail
                go_quiet (fail)
                go_wp2
                go_roundw
                case rel => exact ⟨j + 1, by go_num, by omega, HS.out.fr Hs.out ((Fr.refl (fun _ => False) wr).drewN nq) (fun _ _ _ _ => id), HH.out.1.drewN nq, HH.out.2.1.drewN nq, HH.out.2.2.1.drewN nq, HH.out.2.2.2.1.drewN nq, HH.out.2.2.2.2.drewN nq⟩
                case measure => simp [intOf]; omega
              · have hP := ho2.peek
                have k1 := hP.cell 1 rfl
                have k4 := hP.cell 4 rfl
                by_cases hkey : y.key = x.key
                · have h7 : (y.key.toList == x.key.toList) = true := by rw [hkey]; simp
                  have k4f := hP.free 4
                  have hPl := hP.lt
                  have hsd := Hs.out.src d hmem
                  have hfin : ∀ q, Sts cs (upTo x.key (j + 1) rs) ((wr.drewN q).setCell ⟨d.cb, 4, none⟩ (.bool false)) (fun i pk => j + 1 ≤ i → pk = true) := fun q =>
                    Sts.one Hs.out hcj hS (((Fr.refl d.foot wr).drewN q).setCell ⟨d.cb, 4, none⟩ (.bool false) (fun _ => .inl rfl)) (fun i hi => upTo_ne _ _ _ _ hi) (fun i pk hne hK hi => hK (by omega)) (fun r' hr' => ⟨false, fun h => by omega, by
                      rw [upTo_same, hrj, Option.map_some, show dropK x.key (y :: rl, re) = (rl, re) by simp [dropK, hkey]] at hr'
                      injection hr' with hr'
                      rw [← hr']
                      exact Cst.take hsd (ho2.new hsd ((Fr.refl (fun _ => False) wr).drewN q))⟩)
                  have n1 : rb ≠ d.cb := fun h => hrf (.inr (.inr ⟨_, hmem, .inl h⟩))
                  have n2 : xb ≠ d.cb := fun h => hxf (.inr (.inr ⟨_, hmem, .inl h⟩))
                  have n3 : ab ≠ d.cb := fun h => Hs.out.ab _ hmem (.inl h)
                  have n4 : (Value.slice (some ⟨gr, 0, none⟩) cs.length cp).ownBlock ≠ some d.cb := fun h => Hs.out.row _ h _ hmem (.inl rfl)
                  have HS := Lib.hid hfin
                  have HH := Lib.hid (And.intro hF (And.intro hR (And.intro hX (And.intro hA hrow))))
                  have HN := Lib.hid (And.intro n1 (And.intro n2 (And.intro n3 (And.intro n4 (show ∀ k, k = d.cb → mgF ab (.slice (some ⟨gr, 0, none⟩) cs.length cp) cs k from fun k h => .inr (.inr ⟨_, hmem, .inl h⟩))))))
                  clear stay hS hF hR hX hA hrow hcj hrj hcell hmem ho ho2 hk hP hkey hfin n1 n2 n3 n4 hsd
                  go_upto_region 17 with fail
                  go_quiet (fail)
                  go_wp2
                  go_roundw
                  case rel =>
                    obtain ⟨n1, n2, n3, n4, n5⟩ := HN.out
                    exact ⟨j + 1, by go_num, by omega, HS.out nq, (HH.out.1.drewN nq).setCell _ _ (fun _ => n5 _ rfl), (HH.out.2.1.drewN nq).other (a := ⟨d.cb, 4, none⟩) n1 _, (HH.out.2.2.1.drewN nq).other (a := ⟨d.cb, 4, none⟩) n2 _, (HH.out.2.2.2.1.drewN nq).other (a := ⟨d.cb, 4, none⟩) n3 _, (HH.out.2.2.2.2.drewN nq).other (a := ⟨d.cb, 4, none⟩) n4 _⟩
                  case measure => simp [intOf]; omega
                · have h7 : (y.key.toList == x.key.toList) = false := toList_ne hkey
                  have HS := Lib.hid (stay (by simp [dropK, hkey]))
                  have HH := Lib.hid (And.intro hF (And.intro hR (And.intro hX (And.intro hA hrow))))
                  clear stay hS hF hR hX hA hrow hcj hrj hcell hmem ho ho2 hk hP hkey
                  go_upto_region 17 with fail
                  go_quiet (fail)
                  go_wp2
                  go_roundw
                  case rel => exact ⟨j + 1, by go_num, by omega, HS.out.fr Hs.out ((Fr.refl (fun _ => False) wr).drewN nq) (fun _ _ _ _ => id), HH.out.1.drewN nq, HH.out.2.1.drewN nq, HH.out.2.2.1.drewN nq, HH.out.2.2.2.1.drewN nq, HH.out.2.2.2.2.drewN nq⟩
                  case measure => simp [intOf]; omega
          · obtain rfl : j = cs.length := by omega
            obtain ⟨hm0, hlen, hlt⟩ := HM.out
            rw [upTo_end _ _ _ (by omega)] at hS
            have hI : MgI ab (.slice A cs.length cp) cs wr l0 e := ⟨hA, hrow, hfew, fun c hc k hk => by have := hlt c hc k hk; have := hF.size; omega, rs.map (dropK x.key), by rw [List.length_map, hlen], fun i c r hi hr => by obtain ⟨pk, _, ho⟩ := hS i c r hi hr; exact ⟨pk, trivial, ho⟩, hm0⟩
            have x1 := hX.cell 1 rfl
            have x2 := hX.cell 2 rfl
            have r0 := hR.cell 0 rfl
            have r1 := hR.cell 1 rfl
            have r2 := hR.cell 2 rfl
            have f0 := hR.free 0
            have f1 := hR.free 1
            have f2 := hR.free 2
            have hrl := hR.lt
            have HH := Lib.hid (And.intro hR (And.intro hF hI))
            clear hS hF hR hX hA hrow hI hm0 hlen hlt
            go_wp2
            have g6 : Fr (fun k => k = rb) wr (((wr.setCell ⟨rb, 0, none⟩ (.string x.key)).setCell ⟨rb, 1, none⟩ (.string x.val)).setCell ⟨rb, 2, none⟩ (.bool x.gone)) := (((Fr.refl _ wr).set1 _ _).set1 _ _).set1 _ _
            refine bodyPost_ret (results_en rfl _ _ rb _ _ _ _ _ rfl (((HH.out.1.set 0 _).set 1 _).set 2 _) rfl rfl) rfl ⟨HH.out.2.1.trans g6 (fun i hi h => by have := Hrx.out; omega), .inr ⟨x, l0, rfl, rfl, HH.out.2.2.fr Hs.out g6 (fun k hk h => hrf (by rw [← h]; exact hk))⟩⟩
end Go.Proofs.Ytcpnjlnphjnhnaa

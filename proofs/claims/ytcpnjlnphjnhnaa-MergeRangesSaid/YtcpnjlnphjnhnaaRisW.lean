/- Rising, walked. Conditions: those of the lemmas. -/
import Derived.Test.YtcpnjlnphjnhnaaRisP
import Derived.Deep.CutBlock
namespace Go.Proofs.Ytcpnjlnphjnhnaa
open Go.RowKit
set_option maxHeartbeats 4000000 in
set_option maxRecDepth 100000 in
theorem rising_any {W : World} {A : Option Addr} {cp : Nat} {l : List En} (hR : RdE W A l) (hfew : l.length ≤ 1000000) : Calls Try.prog 20 #[.slice A l.length cp] W (NewList W (rising l)) := by
  go_enter Try.func20, Try.ntmps20
  go_wp2_with fail
  go_loopw [3, 4] (fun v i wr => ∃ (j : Nat), i = .int .i64 j ∧ j ≤ l.length ∧ RowK wr 32 3 v (ens (rising (l.take j))) ∧ (∀ q, v.ownBlock = some q → W.heap.size ≤ q) ∧ Fr (fun _ => False) W wr) (fun _ i _ => l.length - (intOf i).toNat)
  case atStart => exact ⟨0, rfl, Nat.zero_le _, RowK.nil _ _ _, fun q h => by simp [Value.ownBlock] at h, Fr.refl _ _⟩
  case round =>
    obtain ⟨j, rfl, hj, hV, hVn, hF⟩ := hrel
    by_cases hjn : j < l.length
    · have hx : l[j]? = some l[j] := List.getElem?_eq_getElem hjn
      generalize l[j] = x at hx
      have hR1 : RdE wr A l := hR.fr hF (fun _ _ => id)
      obtain ⟨ad, hAe, a0, a1, a2⟩ := hR1.cells hx
      subst hAe
      have ij : (j : Int) < (l.length : Int) := by omega
      have ij0 : (0 : Int) ≤ (j : Int) := by omega
      have hrt := rising_take hx
      have hral := rising_len (l.take j)
      rw [List.length_take] at hral
      generalize rising (l.take j) = acc at hV hrt hral
      have Hrt := Lib.hid hrt
      have hX := Blk.at_new wr [.string x.key, .string x.val, .bool x.gone] 32 _ _ rfl rfl
      have ga := (Fr.refl (fun _ => False) wr).alloc (.cells #[.string x.key, .string x.val, .bool x.gone] 32)
      have hV5 := hV.fr ga (fun _ _ => id)
      have hxb : u3.ownBlock ≠ some wr.heap.size := fun h => by have := hV.lt h; omega
      have f5 := hF.trans ga (fun _ _ h => h)
      have hszW := hF.size
      clear hV hF hR1 ga hrt hx
      go_upto_region 6 with fail
      simp only [List.toArray] at hX
      generalize wr.alloc (.cells #[.string x.key, .string x.val, .bool x.gone] 32) = w5 at hX hV5 f5 ⊢
      generalize wr.heap.size = xb at hX hxb hszW ⊢
      have x1 := hX.cell 1 rfl
      have x2 := hX.cell 2 rfl
      have x1f := hX.free 1
      have hxl := hX.lt
      have HX := Lib.hid hX
      clear hX a0 a1 a2
      go_upto_if 19 with fail
      go_cut [] (fun w => Blk w xb (enV (cl x)) 32 ∧ Fr (fun k => k = xb) w5 w)
      case first =>
        cases hg : x.gone with
        | true =>
          have HX2 := Lib.hid hg
          clear hV5 f5
          go_wp2
          go_meet
          have h1 := HX.out.set 1 (.string ⟨#[]⟩)
          exact ⟨by simpa [cl, HX2.out, enV] using h1, (Fr.refl _ w5).set1 _ _⟩
        | false =>
          have HX2 := Lib.hid hg
          clear hV5 f5
          go_wp2
          go_meet
          exact ⟨by simpa [cl, HX2.out, enV] using HX.out, Fr.refl _ w5⟩
      case rest =>
        obtain ⟨hZ, hcf⟩ := hcut
        have hV := hV5.fr hcf (fun q hq h => hxb (by rw [← h]; exact hq))
        have hF := f5.trans hcf (fun i hi h => by omega)
        clear hV5 f5 hcf HX x1 x2 x1f hxl w5
        generalize cl x = z at hZ Hrt
        obtain ⟨vA, vc, rfl⟩ := hV.slice
        rw [ens_len] at hV hVn hxb ⊢
        have z0 := hZ.cell 0 rfl
        have HH := Lib.hid (And.intro hF (And.intro hVn hxb))
        clear hF hVn hxb hR
        go_upto_block 2 with fail
        go_cut [6] (fun t w => ∃ i : Nat, t = .int .i64 i ∧ i ≤ acc.length ∧ (∀ k y, k < i → acc[k]? = some y → sLt y.key z.key = true) ∧ (∀ y, acc[i]? = some y → sLt y.key z.key = false) ∧ Fr (fun _ => False) wc w)
        case first =>
          go_wp2_with fail
          go_loopw [6] (fun t wr => ∃ i : Nat, t = .int .i64 i ∧ i ≤ acc.length ∧ (∀ k y, k < i → acc[k]? = some y → sLt y.key z.key = true) ∧ Fr (fun _ => False) wc wr) (fun t _ => acc.length - (intOf t).toNat)
          case atStart => exact ⟨0, rfl, Nat.zero_le _, fun k y hk => by omega, Fr.refl _ _⟩
          case round =>
            obtain ⟨i, rfl, hi, hlo, hf⟩ := hrel
            have hV := hV.fr hf (fun _ _ => id)
            have z0 := hf.cell z0 id
            by_cases hin : i < acc.length
            · have hy : acc[i]? = some acc[i] := List.getElem?_eq_getElem hin
              generalize acc[i] = y at hy
              obtain ⟨gr, rfl, _⟩ := hV.head (by omega)
              have hye : (ens acc)[i]? = some (enV y) := by simp [ens, hy]
              have k0 := hV.cell i 0 hye rfl
              rw [Nat.add_zero] at k0
              have ka : (⟨gr, 0, none⟩ : Addr).add (i * 3) = ⟨gr, i * 3, none⟩ := add_plain _ _
              have ii : (i : Int) < (acc.length : Int) := by omega
              have ii0 : (0 : Int) ≤ (i : Int) := by omega
              have Hl := Lib.hid (And.intro hlo (And.intro hf hy))
              clear hlo hf hy hye hV hZ
              cases hlt : sLt y.key z.key with
              | true =>
                have h7 : Op.bytesLess y.key.toList z.key.toList = true := hlt
                have HL := Lib.hid hlt
                clear hlt
                go_upto_region 9 with fail
                go_quiet (fail)
                go_wp2
                go_roundw
                case rel =>
                  obtain ⟨hlo, hf, hy⟩ := Hl.out
                  refine ⟨i + 1, by go_num, by omega, fun k y' hk hy' => ?_, hf.drewN nq⟩
                  by_cases hki : k = i
                  · subst hki
                    rw [hy] at hy'
                    injection hy' with hy'
                    subst hy'
                    exact HL.out
                  · exact hlo k y' (by omega) hy'
                case measure => simp [intOf]; omega
              | false =>
                have h7 : Op.bytesLess y.key.toList z.key.toList = false := hlt
                have HL := Lib.hid hlt
                clear hlt
                go_upto_region 9 with fail
                go_quiet (fail)
                go_wp2
                go_meet
                obtain ⟨hlo, hf, hy⟩ := Hl.out
                exact ⟨i, rfl, by omega, hlo, fun y' hy' => by rw [hy] at hy'; injection hy' with hy'; subst hy'; exact HL.out, hf.drewN nq⟩
            · obtain rfl : i = acc.length := by omega
              have Hl := Lib.hid (And.intro hlo hf)
              clear hlo hf hV hZ
              go_upto_region 9 with fail
              go_quiet (fail)
              go_wp2
              go_meet
              exact ⟨acc.length, rfl, Nat.le_refl _, Hl.out.1, fun y' hy' => by simp at hy', Hl.out.2.drewN nq⟩
        case rest =>
          obtain ⟨i, rfl, hi, hlo, hhi, hf⟩ := hcut
          obtain ⟨hF, hVn, hxb⟩ := HH.out
          have hV := hV.fr hf (fun _ _ => id)
          have hZ := hf.blk hZ id
          have hF := hF.trans hf (fun _ _ h => h)
          clear hf z0 HH
          have z0 := hZ.cell 0 rfl
          obtain ⟨b, hb⟩ : ∃ b : Bool, b = true ↔ ∃ y, acc[i]? = some y ∧ y.key = z.key := by
            by_cases h : ∃ y, acc[i]? = some y ∧ y.key = z.key
            · exact ⟨true, fun _ => h, fun _ => rfl⟩
            · exact ⟨false, fun hh => (by cases hh), fun hh => absurd hh h⟩
          have HB := Lib.hid (And.intro hb (And.intro hhi hlo))
          have HO := Lib.hid (And.intro hV (And.intro hZ (And.intro hF (And.intro hVn hxb))))
          clear hb hhi hlo hZ hF hVn hxb
          generalize wc = wd at z0 hV HO ⊢
          go_upto_region 11 with fail
          go_cut [50] (fun t w => t = .bool b ∧ Fr (fun _ => False) wd w)
          case first =>
            by_cases hin : i < acc.length
            · have hy : acc[i]? = some acc[i] := List.getElem?_eq_getElem hin
              generalize acc[i] = y at hy
              obtain ⟨gr, rfl, _⟩ := hV.head (by omega)
              have hye : (ens acc)[i]? = some (enV y) := by simp [ens, hy]
              have k0 := hV.cell i 0 hye rfl
              rw [Nat.add_zero] at k0
              have ka : (⟨gr, 0, none⟩ : Addr).add (i * 3) = ⟨gr, i * 3, none⟩ := add_plain _ _
              have ii : (i : Int) < (acc.length : Int) := by omega
              have ii0 : (0 : Int) ≤ (i : Int) := by omega
              have hbb : b = true ↔ y.key = z.key := ⟨fun h => by obtain ⟨y', h1, h2⟩ := HB.out.1.1 h; rw [hy] at h1; injection h1 with h1; rw [h1]; exact h2, fun h => HB.out.1.2 ⟨y, hy, h⟩⟩
              by_cases hk : y.key = z.key
              · obtain rfl := hbb.2 hk
                have h7 : (y.key.toList == z.key.toList) = true := by rw [hk]; simp
                clear hV hye hy hk hbb
                go_quiet (fail)
                go_wp2
                go_meet
                exact ⟨rfl, (Fr.refl _ _).drewN nq⟩
              · obtain rfl : b = false := by cases hh : b with | false => rfl | true => exact absurd (hbb.1 hh) hk
                have h7 : (y.key.toList == z.key.toList) = false := toList_ne hk
                clear hV hye hy hk hbb
                go_quiet (fail)
                go_wp2
                go_meet
                exact ⟨rfl, (Fr.refl _ _).drewN nq⟩
            · obtain rfl : i = acc.length := by omega
              obtain rfl : b = false := by cases hh : b with | false => rfl | true => obtain ⟨y, h, _⟩ := HB.out.1.1 hh; simp at h
              clear hV
              go_quiet (fail)
              go_wp2
              go_meet
              exact ⟨rfl, (Fr.refl _ _).drewN nq⟩
          case rest =>
            obtain ⟨rfl, hf⟩ := hcut
            obtain ⟨hV, hZ, hF, hVn, hxb⟩ := HO.out
            have hV := hV.fr hf (fun _ _ => id)
            have hZ := hf.blk hZ id
            have hF := hF.trans hf (fun _ _ h => h)
            clear hf z0 HO
            have z0 := hZ.cell 0 rfl
            have z1 := hZ.cell 1 rfl
            have z2 := hZ.cell 2 rfl
            have zl := hZ.lt
            cases b with
            | true =>
              obtain ⟨y, hy, hk⟩ := HB.out.1.1 rfl
              have hin := (List.getElem?_eq_some_iff.1 hy).1
              obtain ⟨gr, rfl, _⟩ := hV.head (by omega)
              have hye : (ens acc)[i]? = some (enV y) := by simp [ens, hy]
              have k0 := hV.cell i 0 hye rfl
              have k1 := hV.cell i 1 hye rfl
              have k2 := hV.cell i 2 hye rfl
              rw [Nat.add_zero] at k0
              have f0 := hV.free (i * 3)
              have f1 := hV.free (i * 3 + 1)
              have f2 := hV.free (i * 3 + 2)
              obtain ⟨cur, hcur⟩ := hV.kind (q := gr) rfl
              have hgl : gr < wc.heap.size := (Array.getElem?_eq_some_iff.1 hcur).1
              have ka : (⟨gr, 0, none⟩ : Addr).add (i * 3) = ⟨gr, i * 3, none⟩ := add_plain _ _
              have ii : (i : Int) < (acc.length : Int) := by omega
              have ii0 : (0 : Int) ≤ (i : Int) := by omega
              have hgw : gr < W.heap.size → False := fun h => by have := hVn gr rfl; omega
              have s3 := RowK.set3 hV i (by rw [ens_len]; exact hin) (.string z.key) (.string z.val) (.bool z.gone)
              have g3 := ((hF.setCell ⟨gr, i * 3, none⟩ (.string z.key) (fun h => hgw h)).setCell ⟨gr, i * 3 + 1, none⟩ (.string z.val) (fun h => hgw h)).setCell ⟨gr, i * 3 + 2, none⟩ (.bool z.gone) (fun h => hgw h)
              have HS := Lib.hid (And.intro s3 (And.intro g3 (And.intro hVn (show rising (l.take (j + 1)) = acc.set i z by rw [Hrt.out, ins_eq acc i y HB.out.2.2 hy hk]))))
              clear s3 g3 hV hZ hF hye hy hcur hVn hk
              go_wp2
              go_roundw
              case rel =>
                obtain ⟨s3, g3, hVn, hrt⟩ := HS.out
                exact ⟨j + 1, by go_num, by omega, by rw [hrt, show ens (acc.set i z) = (ens acc).set i (enV z) by simp [ens, List.map_set]]; exact s3, hVn, g3⟩
              case measure => simp [intOf]; omega
            | false =>
              have hins := ins_new acc i hi HB.out.2.2 (fun y hy => ⟨HB.out.2.1 y hy, fun hk => by have := HB.out.1.2 ⟨y, hy, hk⟩; cases this⟩)
              have HO := Lib.hid (And.intro (hins ▸ Hrt.out) (And.intro hZ (And.intro hF (And.intro hVn hxb))))
              clear hins z0 z1 z2 zl hZ hF hVn hxb HB
              go_wp2_with (at_builtin; go_must (refine appK rfl _ _ 22 32 (.agg #[.string ⟨#[]⟩, .string ⟨#[]⟩, .bool false]) 3 40 rfl Try.underlying22 infoEn rfl (by decide) (by decide) (.slice vA acc.length vc) (ens acc) [.string ⟨#[]⟩, .string ⟨#[]⟩, .bool false] rfl rfl rfl (by simp [Value.oneCell']) hV (by rw [ens_len]; omega) ?_); intro g2 c2 w8 hR8 hor8 hf8 _)
              rw [ens_len] at hR8 ⊢
              rw [← hole_end] at hR8
              obtain ⟨hrt, hZ, hF, hVn, hxb⟩ := HO.out
              have hZ8 := hf8.blk hZ hxb
              have hF8 := hF.trans hf8 (fun q hq h => by have := hVn q h; omega)
              have hgn : W.heap.size ≤ g2 := by
                rcases hor8 with h | h
                · exact hVn _ h
                · have := hF.size; omega
              have hgx : g2 ≠ xb := fun h => by
                rcases hor8 with h2 | h2
                · exact hxb (by rw [← h]; exact h2)
                · have := hZ.lt; omega
              have HO2 := Lib.hid (And.intro hrt (And.intro hZ8 hF8))
              clear HO hrt hZ hF hVn hxb hZ8 hF8 hf8 hor8 hV
              go_loopw [7] (fun t wr => ∃ (k : Nat) (q : List Value), t = .int .i64 k ∧ i ≤ k ∧ k ≤ acc.length ∧ RowK wr 32 3 (.slice (some ⟨g2, 0, none⟩) (acc.length + 1) c2) (hole acc k q) ∧ Fr (fun b => b = g2) w8 wr) (fun t _ => (intOf t).toNat)
              case atStart => exact ⟨acc.length, _, by rw [IntWalk.wrap64_in _ (by omega)], hi, Nat.le_refl _, hR8, Fr.refl _ _⟩
              case round =>
                clear hR8
                obtain ⟨k, q, rfl, hik, hka, hH, hf⟩ := hrel
                have hl := hole_len acc k q
                by_cases hkn : i < k
                · obtain ⟨k, rfl⟩ : ∃ m, k = m + 1 := ⟨k - 1, by omega⟩
                  have hy : acc[k]? = some (acc[k]'(by omega)) := List.getElem?_eq_getElem _
                  generalize acc[k]'(by omega) = y at hy
                  have hye := hole_at hy q
                  have hq : (hole acc (k + 1) q)[k + 1]? = some ((hole acc (k + 1) q)[k + 1]'(by omega)) := List.getElem?_eq_getElem _
                  have hq3 := hH.1 _ (List.mem_of_getElem? hq)
                  generalize (hole acc (k + 1) q)[k + 1]'(by omega) = q0 at hq hq3
                  match q0, hq3 with
                  | [q0, q1, q2], _ =>
                  have k0 := hH.cell k 0 hye rfl
                  have k1 := hH.cell k 1 hye rfl
                  have k2 := hH.cell k 2 hye rfl
                  have d0 := hH.cell (k + 1) 0 hq rfl
                  have d1 := hH.cell (k + 1) 1 hq rfl
                  have d2 := hH.cell (k + 1) 2 hq rfl
                  rw [Nat.add_zero] at k0 d0
                  have f0 := hH.free ((k + 1) * 3)
                  have f1 := hH.free ((k + 1) * 3 + 1)
                  have f2 := hH.free ((k + 1) * 3 + 2)
                  obtain ⟨cur, hcur⟩ := hH.kind (q := g2) rfl
                  have hgl : g2 < wr.heap.size := (Array.getElem?_eq_some_iff.1 hcur).1
                  have ka : (⟨g2, 0, none⟩ : Addr).add (k * 3) = ⟨g2, k * 3, none⟩ := add_plain _ _
                  have kb : (⟨g2, 0, none⟩ : Addr).add ((k + 1) * 3) = ⟨g2, (k + 1) * 3, none⟩ := add_plain _ _
                  have i1 : IntKind.i64.wrap (((k + 1 : Nat) : Int) - 1) = (k : Int) := by rw [IntWalk.i64_in _ (by omega)]; omega
                  have ii : (i : Int) < ((k + 1 : Nat) : Int) := by omega
                  have ij1 : ((k + 1 : Nat) : Int) < (acc.length : Int) + 1 := by omega
                  have ij2 : (k : Int) < (acc.length : Int) + 1 := by omega
                  have ij3 : (0 : Int) ≤ (k : Int) := by omega
                  have ij4 : (0 : Int) ≤ ((k + 1 : Nat) : Int) := by omega
                  have s3 := RowK.set3 hH (k + 1) (by omega) (.string y.key) (.string y.val) (.bool y.gone)
                  have g3 := ((hf.set1 ((k + 1) * 3) (.string y.key)).set1 ((k + 1) * 3 + 1) (.string y.val)).set1 ((k + 1) * 3 + 2) (.bool y.gone)
                  have hst := hole_step hy q
                  have HS := Lib.hid (And.intro (show RowK _ 32 3 _ (hole acc k (enV y)) from hst ▸ s3) g3)
                  clear s3 g3 hst hH hf hye hq hcur hy
                  go_wp2
                  go_roundw
                  case rel => exact ⟨k, _, by go_num, by omega, by omega, HS.out.1, HS.out.2⟩
                  case measure => simp [intOf]
                · obtain rfl : k = i := by omega
                  have hq : (hole acc k q)[k]? = some ((hole acc k q)[k]'(by omega)) := List.getElem?_eq_getElem _
                  have hq3 := hH.1 _ (List.mem_of_getElem? hq)
                  generalize (hole acc k q)[k]'(by omega) = q0 at hq hq3
                  match q0, hq3 with
                  | [q0, q1, q2], _ =>
                  have d0 := hH.cell k 0 hq rfl
                  have d1 := hH.cell k 1 hq rfl
                  have d2 := hH.cell k 2 hq rfl
                  rw [Nat.add_zero] at d0
                  have f0 := hH.free (k * 3)
                  have f1 := hH.free (k * 3 + 1)
                  have f2 := hH.free (k * 3 + 2)
                  obtain ⟨cur, hcur⟩ := hH.kind (q := g2) rfl
                  have hgl : g2 < wr.heap.size := (Array.getElem?_eq_some_iff.1 hcur).1
                  have ka : (⟨g2, 0, none⟩ : Addr).add (k * 3) = ⟨g2, k * 3, none⟩ := add_plain _ _
                  have ij2 : (k : Int) < (acc.length : Int) + 1 := by omega
                  have ij3 : (0 : Int) ≤ (k : Int) := by omega
                  obtain ⟨hrt, hZ8, hF8⟩ := HO2.out
                  have hZ := hf.blk hZ8 (fun h => hgx h.symm)
                  have z0 := hZ.cell 0 rfl
                  have z1 := hZ.cell 1 rfl
                  have z2 := hZ.cell 2 rfl
                  have s3 := RowK.set3 hH k (by omega) (.string z.key) (.string z.val) (.bool z.gone)
                  have g3 := hF8.trans (((hf.set1 (k * 3) (.string z.key)).set1 (k * 3 + 1) (.string z.val)).set1 (k * 3 + 2) (.bool z.gone)) (fun i hi h => by omega)
                  have hst := hole_fill acc k hi q z
                  have hll : (acc.take k ++ z :: acc.drop k).length = acc.length + 1 := by simp; omega
                  have HS := Lib.hid (And.intro (show RowK _ 32 3 (.slice (some ⟨g2, 0, none⟩) (acc.length + 1) c2) (ens (rising (l.take (j + 1)))) from hrt ▸ hst ▸ s3) g3)
                  clear s3 g3 hst hH hf hq hcur hrt hZ8 hF8 hZ HO2 hll
                  go_wp2
                  go_roundw
                  case rel => exact ⟨j + 1, by go_num, by omega, HS.out.1, fun q hq => (by simp [Value.ownBlock] at hq; omega), HS.out.2⟩
                  case measure => simp [intOf]; omega
    · obtain rfl : j = l.length := by omega
      rw [List.take_length] at hV
      obtain ⟨A1, c1, rfl, hrd, hle, hmx, _⟩ := hV.rd
      have hown := fun ad (h : A1 = some ad) => hV.at_own h
      rw [ens_len] at hV hle hown hVn ⊢
      have hkind := fun ad (h : A1 = some ad) => hV.kind (hown ad h)
      have HH := Lib.hid (And.intro hF (And.intro hVn (And.intro hown (And.intro hrd (And.intro hle (And.intro hmx hkind))))))
      clear hV hF hVn hown hrd hle hmx hkind hR
      go_wp2
      go_ret
      obtain ⟨hF, hVn, hown, hrd, hle, hmx, hkind⟩ := HH.out
      exact ⟨A1, c1, rfl, hrd, fun ad h => by
        obtain ⟨cur, hc⟩ := hkind ad h
        exact ⟨hVn _ (hown ad h), (Array.getElem?_eq_some_iff.1 hc).1, cur, hc⟩, by simpa using hle, by simpa [maxLen] using hmx, hF⟩
end Go.Proofs.Ytcpnjlnphjnhnaa

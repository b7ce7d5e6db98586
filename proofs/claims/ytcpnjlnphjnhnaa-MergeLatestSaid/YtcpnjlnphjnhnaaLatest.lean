/- The law MergeLatest, walked. Conditions: those of the lemmas. -/
import Derived.Test.YtcpnjlnphjnhnaaLatestP
import Derived.Laws.Concat
namespace Go.Proofs.Ytcpnjlnphjnhnaa
open Go.RowKit
set_option maxHeartbeats 4000000 in
set_option maxRecDepth 100000 in
theorem latest_any {W : World} {A : Option Addr} {cp : Nat} {ls : List LiD} (key : ByteArray) (hks : key.size ≤ 9000000000000000000) (hR : RdL W A ls) : Calls Try.prog 6 #[.slice A ls.length cp, .string key] W fun en w' => en = .returned (.bool true) ∧ Fr (fun _ => False) W w' := by
  have hq : ∀ w : World, (Op.stringOp .add key ⟨#[120]⟩).run Try.prog w = .ok (.string (exk key)) w := fun w => run_string_add_sum w key ⟨#[120]⟩ (by have : (⟨#[120]⟩ : ByteArray).size = 1 := rfl; omega)
  go_enter Try.func6, Try.ntmps6
  go_wp2_with fail
  refine (awake_any _).mono ?_
  rintro en w1 ⟨rfl, hf1⟩
  by_cases h12 : (12 : Int) < (ls.length : Int)
  · have HF := Lib.hid hf1
    clear hf1 hR
    go_wp2_with fail
    refine (awake_any _).mono ?_
    rintro en w3 ⟨rfl, hf3⟩
    have HF2 := Lib.hid (HF.out.trans hf3 (fun _ _ h => h))
    clear HF hf3
    go_wp2
    go_ret
    exact ⟨rfl, HF2.out⟩
  · have hLb := Blk.at_new w1 (enV En.zero) 32 _ _ rfl rfl
    have f2 := hf1.alloc (.cells #[.string ⟨#[]⟩, .string ⟨#[]⟩, .bool false] 32)
    have g2 := (Fr.refl (fun _ => False) w1).alloc (.cells #[.string ⟨#[]⟩, .string ⟨#[]⟩, .bool false] 32)
    have hsW1 := hf1.size
    have hl2 : w1.heap.size < (w1.alloc (.cells #[.string ⟨#[]⟩, .string ⟨#[]⟩, .bool false] 32)).heap.size := by simp
    clear hf1
    go_upto_region 5 with fail
    simp only [enV, En.zero, List.toArray] at hLb
    generalize w1.alloc (.cells #[.string ⟨#[]⟩, .string ⟨#[]⟩, .bool false] 32) = w2 at hLb f2 g2 hl2 ⊢
    generalize hlb : w1.heap.size = lb at hLb hl2 hsW1 ⊢
    have hRs : (ls.map (rowD key)).map toldR = ls.map fun x => (rowL key x, 0) := by
      rw [List.map_map]
      exact List.map_congr_left (fun x _ => rowD_toldR key x)
    have HRs := Lib.hid hRs
    have HR := Lib.hid hR
    clear hRs hR
    go_wp2_with fail
    go_loopw [5, 7, 8] (fun v fnd i wr => ∃ (j : Nat) (ds : List CD), i = .int .i64 j ∧ fnd = .bool (lkN key ls j).isSome ∧ j ≤ ls.length ∧ ds.length = j ∧ (∀ x ∈ ls.take j, x.l.length ≤ 300) ∧ OvsI w1 wr v (ls.map (rowD key)) ds ∧ Blk wr lb (enV (latE (lkN key ls j))) 32 ∧ ((∀ d ∈ ds, ¬ d.foot lb) ∧ v.ownBlock ≠ some lb) ∧ Fr (fun _ => False) W wr) (fun _ _ i _ => ls.length - (intOf i).toNat)
    case atStart => exact ⟨0, [], rfl, rfl, Nat.zero_le _, rfl, fun x h => by simp at h, ⟨Row.nil _ _, fun q h => by simp [Value.ownBlock] at h, fun d h => by simp at h, fun i d r h => by simp at h, fun i j d d' h => by simp at h, fun d h => by simp at h, fun d h => by simp at h, g2⟩, hLb, ⟨fun d h => by simp at h, by simp [Value.ownBlock]⟩, f2⟩
    case round =>
      clear f2 g2 hLb
      obtain ⟨j, ds, rfl, rfl, hj, hdl, hP, hO, hLb, hap, hF⟩ := hrel
      by_cases hjn : j < ls.length
      · have hx : ls[j]? = some ls[j] := List.getElem?_eq_getElem hjn
        have hmem := List.getElem_mem hjn
        generalize ls[j] = x at hx hmem
        have hR1 := HR.out.new hF
        obtain ⟨ad, hAe, a0⟩ := hR1.cell hx
        subst hAe
        have ij : (j : Int) < (ls.length : Int) := by omega
        have ij0 : (0 : Int) ≤ (j : Int) := by omega
        have HQ := Lib.hid (few1_any (cp := x.cp) (hR1.es x hmem))
        have HO := Lib.hid (And.intro hP (And.intro hO (And.intro hLb (And.intro hap (And.intro hF (And.intro hR1 hx))))))
        clear hP hO hLb hap hF hR1 hx
        go_wp2_with fail
        refine HQ.out.mono ?_
        rintro en wb ⟨b, rfl, hf2, hb⟩
        cases b with
        | false =>
          have HF2 := Lib.hid (HO.out.2.2.2.2.1.trans hf2 (fun _ _ h => h))
          clear HO HQ hf2 hb
          go_wp2
          go_ret
          exact ⟨rfl, HF2.out⟩
        | true =>
          have a0 := hf2.cell a0 id
          by_cases h300 : (300 : Int) < (x.l.length : Int)
          · have HF2 := Lib.hid (HO.out.2.2.2.2.1.trans hf2 (fun _ _ h => h))
            clear HO HQ hf2 hb
            go_wp2
            go_ret
            exact ⟨rfl, HF2.out⟩
          · have hRb := (HO.out.2.2.2.2.2.1.new hf2).es x hmem
            have Hf2 := Lib.hid hf2
            clear HQ hf2 hb
            have hrow := RowK.emp wb 32 3
            have hr2 : RdE (wb.alloc (.cells #[] 32)) x.A x.l := hRb.fr ((Fr.refl (fun _ => False) wb).alloc _) (fun _ _ => id)
            have a0 := ((Fr.refl (fun _ => False) wb).alloc (.cells #[] 32)).cell a0 id
            go_upto_region 11 with fail
            go_wp2_with (at_builtin; first
              | (refine appNK rfl _ _ 22 32 (.agg #[.string ⟨#[]⟩, .string ⟨#[]⟩, .bool false]) 3 40 rfl Try.underlying22 infoEn rfl (by decide) (by decide) (.slice (some ⟨wb.heap.size, 0, none⟩) 0 0) [] rfl x.A (ens x.l) x.l.length x.cp (ens_len x.l).symm rfl hrow (ens_three x.l) hr2 (ens_one x.l) (by rw [ens_len]; simp; omega) ?_; intro v1 w5 hR1 hor1 hf5; rw [List.nil_append] at hR1)
              | (refine appK rfl _ _ 22 32 (.agg #[.string ⟨#[]⟩, .string ⟨#[]⟩, .bool false]) 3 40 rfl Try.underlying22 infoEn rfl (by decide) (by decide) v1 (ens x.l) [.string (exk key), .string ⟨#[]⟩, .bool false] rfl rfl rfl (by simp [Value.oneCell']) hR1 (by rw [ens_len]; omega) ?_; intro g8 c8 w8 hR8 hor8 hf8 _))
            have hown1 : ∀ k, v1.ownBlock = some k → wb.heap.size ≤ k := fun k hk => by
              rcases hor1 with h | h
              · rw [h] at hk; simp [Value.ownBlock] at hk; omega
              · rw [h] at hk; simp at hk; omega
            have g5 : Fr (fun _ => False) wb w5 := ((Fr.refl (fun _ => False) wb).alloc (.cells #[] 32)).trans hf5 (fun i hi h => by simp [Value.ownBlock] at h; omega)
            have gb8 : Fr (fun _ => False) wb w8 := g5.trans hf8 (fun i hi h => by have := hown1 i h; omega)
            have hrl : (ens x.l).length + 1 = (x.l ++ ([⟨exk key, ⟨#[]⟩, false⟩] : List En)).length := by simp [ens_len]
            have hR8e : RowK w8 32 3 (.slice (some ⟨g8, 0, none⟩) ((ens x.l).length + 1) c8) (ens (x.l ++ ([⟨exk key, ⟨#[]⟩, false⟩] : List En))) := by rw [ens_snoc]; exact hR8
            obtain ⟨A', c', e8, hrd8, _⟩ := hR8e.rd
            injection e8 with e81
            subst e81
            have hri := rising_any (cp := c8) (l := x.l ++ ([⟨exk key, ⟨#[]⟩, false⟩] : List En)) hrd8 (by simp; omega)
            rw [← hrl] at hri
            have Hb8 := Lib.hid (Hf2.out.trans gb8 (fun _ _ h => h))
            have HN := Lib.hid hri
            clear hR8 hR8e hrd8 hf8 hor8 gb8 g5 hown1 hf5 hor1 hR1 hr2 hrow hRb Hf2 a0 hri
            go_wp2_with fail
            refine HN.out.mono ?_
            rintro en w9 ⟨A9, c9, rfl, hR9, hA9, _, _, hf9⟩
            have hlen9 := rowL_len key x
            have hR9' : RdE w9 A9 (rowL key x) := hR9
            have hfold : rising (x.l ++ ([⟨exk key, ⟨#[]⟩, false⟩] : List En)) = rowL key x := rfl
            rw [hfold]
            have gr9 := Hb8.out.trans hf9 (fun _ _ h => h)
            obtain ⟨hP, hO, hLb, hap, hF, hR1, hx⟩ := HO.out
            have hLb9 := gr9.blk hLb id
            have hlbr := hLb.lt
            have h8r := Hb8.out.size
            have hA9n : ∀ ad, A9 = some ad → ad.block ≠ lb := fun ad h e => by have := (hA9 ad h).1; omega
            have HO2 := Lib.hid (And.intro hP (And.intro hO (And.intro hap (And.intro hF (And.intro hx gr9)))))
            clear HO hP hO hLb hap hF hR1 hx gr9 HN Hb8 hf9 hA9 hfold hR9
            generalize hrw : rowL key x = rows at hR9' hlen9 ⊢
            have Hrw := Lib.hid hrw
            clear hrw
            generalize ho0 : lkN key ls j = o0 at hLb9 ⊢
            have Ho0 := Lib.hid ho0
            clear ho0
            go_wp2_with fail
            go_loopw [7, 10] (fun fnd t wx => ∃ (k : Nat), t = .int .i64 k ∧ k ≤ rows.length ∧ fnd = .bool (o0.or (look key (rows.take k))).isSome ∧ Blk wx lb (enV (latE (o0.or (look key (rows.take k))))) 32 ∧ Fr (fun b => b = lb) w9 wx) (fun _ t _ => rows.length - (intOf t).toNat)
            case atStart => exact ⟨0, rfl, Nat.zero_le _, by simp [look_nil], by simpa [look_nil] using hLb9, Fr.refl _ _⟩
            case round =>
              clear hLb9
              obtain ⟨k, rfl, hk, rfl, hB, hf⟩ := hrel
              have hlbl := hB.lt
              by_cases hkn : k < rows.length
              · have hy : rows[k]? = some rows[k] := List.getElem?_eq_getElem hkn
                generalize rows[k] = y at hy
                have hlt := look_take (key := key) hy
                obtain ⟨ad9, rfl, y0, y1, y2⟩ := RdE.cells (Rd.fr hR9' hf (fun ad h e => hA9n ad h e)) hy
                have ik : (k : Int) < (rows.length : Int) := by omega
                have ik0 : (0 : Int) ≤ (k : Int) := by omega
                have c0 := hB.cell 0 rfl
                have c1 := hB.cell 1 rfl
                have c2 := hB.cell 2 rfl
                have f0 := hB.free 0
                have f1 := hB.free 1
                have f2 := hB.free 2
                generalize hoo : o0.or (look key (rows.take k)) = oo at hB c0 c1 c2 ⊢
                by_cases hyk : y.key = key
                · have h7 : (y.key.toList == key.toList) = true := by rw [hyk]; simp
                  rw [if_pos hyk] at hlt
                  cases oo with
                  | none =>
                    have hnew : o0.or (look key (rows.take (k + 1))) = some y := by
                      rw [hlt]
                      have h1 : o0 = none := by cases o0 with | none => rfl | some z => simp at hoo
                      have h2 : look key (rows.take k) = none := by rw [h1] at hoo; simpa using hoo
                      rw [h1, h2]; rfl
                    have HB := Lib.hid (And.intro hnew (And.intro hB hf))
                    clear hnew hB hf hoo hlt hy hyk hR9'
                    simp only [Option.isSome_none]
                    go_wp2
                    go_roundw
                    case rel =>
                      obtain ⟨hnew, hB, hf⟩ := HB.out
                      have s3 := ((hB.set 0 (.string y.key)).set 1 (.string y.val)).set 2 (.bool y.gone)
                      exact ⟨k + 1, by go_num, by omega, by rw [hnew]; rfl, by rw [hnew]; exact s3, ((hf.set1 _ _).set1 _ _).set1 _ _⟩
                    case measure => simp [intOf]; omega
                  | some z =>
                    have hnew : o0.or (look key (rows.take (k + 1))) = some z := by
                      rw [hlt, ← Option.or_assoc, hoo]; rfl
                    have HB := Lib.hid (And.intro hnew (And.intro hB hf))
                    clear hnew hB hf hoo hlt hy hyk hR9' c0 c1 c2
                    simp only [Option.isSome_some]
                    go_wp2
                    go_roundw
                    case rel =>
                      obtain ⟨hnew, hB, hf⟩ := HB.out
                      exact ⟨k + 1, by go_num, by omega, by rw [hnew]; rfl, by rw [hnew]; exact hB, hf⟩
                    case measure => simp [intOf]; omega
                · have h7 : (y.key.toList == key.toList) = false := toList_ne hyk
                  rw [if_neg hyk] at hlt
                  have hnew : o0.or (look key (rows.take (k + 1))) = oo := by
                    rw [hlt, ← hoo]; simp
                  have HB := Lib.hid (And.intro hnew (And.intro hB hf))
                  clear hnew hB hf hoo hlt hy hyk hR9' c0 c1 c2
                  go_wp2
                  go_roundw
                  case rel =>
                    obtain ⟨hnew, hB, hf⟩ := HB.out
                    exact ⟨k + 1, by go_num, by omega, by rw [hnew], by rw [hnew]; exact hB, hf⟩
                  case measure => simp [intOf]; omega
              · obtain rfl : k = rows.length := by omega
                rw [List.take_length] at hB ⊢
                obtain ⟨hP, hO, hap, hF, hx, gr9⟩ := HO2.out
                have hOx := (hO.new gr9).fr' hf (fun q hq e => hap.2 (by rw [← e]; exact hq)) (fun d hd k hk e => hap.1 d hd (by rw [← e]; exact hk)) (fun k hk e => by omega)
                have hFx : Fr (fun _ => False) W wr := (hF.trans gr9 (fun _ _ h => h)).trans hf (fun i hi h => by omega)
                have hRx : RdE wr A9 rows := Rd.fr hR9' hf (fun ad h e => hA9n ad h e)
                have hov := overL_any (cp := c9) hRx (by omega)
                have hrow := hOx.row
                have hoD : lkN key ls (j + 1) = o0.or (look key rows) := by rw [lkN_succ hx, Ho0.out, Hrw.out]
                have hP1 : ∀ x ∈ ls.take (j + 1), x.l.length ≤ 300 := fun z hz => by
                  rw [take_succ hx] at hz
                  rcases List.mem_append.1 hz with hz | hz
                  · exact hP z hz
                  · rw [List.mem_singleton] at hz
                    subst hz
                    omega
                have hxd : (ls.map (rowD key))[ds.length]? = some (rowD key x) := by rw [List.getElem?_map, hdl, hx]; rfl
                have hxt : (rowD key x).l = rows := Hrw.out
                have HO3 := Lib.hid (And.intro hOx (And.intro hFx (And.intro hB (And.intro hap (And.intro hoD (And.intro hP1 (And.intro hxd hxt)))))))
                have hrl2 : (ds.length + 1) * 8 ≤ 140737488355328 := by omega
                clear HO2 hP hO hF hx gr9 hOx hFx hRx hf hB hoD hP1 hR9' hap hxd hxt
                go_wp2_with fail
                refine hov.mono ?_
                rintro en wz ⟨d, rfl, hd, hc, hfd, hnd⟩
                have hrowz := hrow.fr hfd (fun _ _ => id)
                clear hrow hov
                go_wp2_with (at_builtin; go_must (refine app1 rfl _ _ 39 29 (.pointer none) 8 rfl Try.underlying39 infoPtr rfl (by decide) u5 (ds.map fun d => ptrC (some d)) (.pointer (some ⟨d.cb, 0, none⟩)) rfl rfl rfl hrowz (by rw [List.length_map]; exact hrl2) ?_); intro gq cq wq hRq horq hfq _)
                go_roundw
                case rel =>
                  obtain ⟨hOx, hFx, hB, hap, hoD, hP1, hxd, hxt⟩ := HO3.out
                  have hOz := hOx.new hfd
                  have hlo : ∀ k, d.foot k → wr.heap.size ≤ k := fun k hk => by
                    rcases hnd k hk with h | h
                    · exact h
                    · exact h.elim
                  have hlbx := hB.lt
                  rw [List.length_map] at hRq
                  have hpush := hOz.push hd hxd (by rw [hxt]; exact hc) hOx.fr.size hlo hOx.lt (fun q hq => hOx.row.lt hq) hRq horq hfq
                  refine ⟨j + 1, ds ++ [d], by go_num, by rw [hoD]; cases o0 <;> simp, by omega, by simp [hdl], hP1, by rw [← hdl]; exact hpush, by rw [hoD]; exact hfq.blk (hfd.blk hB id) hap.2, ⟨fun e he hk => ?_, fun hq => ?_⟩, (hFx.trans hfd (fun _ _ h => h)).trans hfq (fun i hi h => by have := (hOx.own i h).1; omega)⟩
                  · rcases List.mem_append.1 he with he | he
                    · exact hap.1 e he hk
                    · rw [List.mem_singleton] at he
                      subst he
                      have := hlo _ hk
                      omega
                  · have hq' : gq = lb := by simpa [Value.ownBlock] using hq
                    rcases horq with h | h
                    · exact hap.2 (by rw [← hq']; exact h)
                    · have := hfd.size; omega
                case measure => simp [intOf]; omega
      · obtain rfl : j = ls.length := by omega
        rw [List.take_length] at hP
        obtain ⟨vA, vc, rfl⟩ := hO.row.slice
        rw [List.length_map] at hO hap ⊢
        have htot := totR_toldR 301 (ls.map (rowD key)) (fun r hr => by
          obtain ⟨x, hx, rfl⟩ := List.mem_map.1 hr
          have h1 := rowL_len key x
          have h2 := hP x hx
          simp only [rowD]
          omega)
        rw [List.length_map] at htot
        obtain ⟨L, E, hmg⟩ := Mg.ex _ ((ls.map (rowD key)).map toldR) (Nat.le_refl _)
        have hLl := hmg.len
        have hL : L.length ≤ 3612 := by
          have : ls.length * 301 ≤ 12 * 301 := Nat.mul_le_mul_right _ (by omega)
          omega
        obtain ⟨rfl, hlook⟩ := hmg.look (fun r hr => by
          rw [HRs.out] at hr
          obtain ⟨x, hx, rfl⟩ := List.mem_map.1 hr
          exact ⟨rising_ris _, rfl⟩)
        have hris := hmg.ris (toldR_ris _)
        have hlk : lkN key ls ls.length = look key L := by
          rw [hlook key, HRs.out]
          unfold lkN
          rw [List.take_length]
        rw [hlk] at hLb ⊢
        have hom := ovs_merge2 hO (by rw [hdl, List.length_map]) (by rw [List.length_map]; omega) hmg
        have hfeet : ∀ d ∈ ds, ∀ k, d.foot k → W.heap.size ≤ k := fun d hd k hk => by have := hO.lo d hd k hk; omega
        rw [hdl] at hO hom hap ⊢
        have HO := Lib.hid (And.intro hLb (And.intro hap (And.intro hF (And.intro hris hfeet))))
        clear hO hap hF hLb hmg hlook hlk htot hLl hP hris hfeet HR HRs
        go_wp2_with fail
        refine hom.mono ?_
        rintro en w6 ⟨dm, rfl, hdm, hcm, hf6, hnm⟩
        obtain ⟨hLb, hap, hF, hris, hfeet⟩ := HO.out
        have hLb6 := hf6.blk hLb id
        have hF6 := hF.trans hf6 (fun _ _ h => h)
        have hlbl := hLb.lt
        have hnb : ¬ dm.foot lb := fun h => by
          rcases hnm _ h with h | ⟨d, hd, h⟩
          · omega
          · exact hap.1 d hd h
        have hloW : ∀ k, dm.foot k → W.heap.size ≤ k := fun k hk => by
          have := hF.size
          rcases hnm _ hk with h | ⟨d, hd, h⟩
          · omega
          · exact hfeet d hd k h
        have HC := Lib.hid (And.intro hdm (And.intro hnb (And.intro hloW (And.intro hF6 hris))))
        have hft := hcm.foot_lt
        clear HO hap hF hom hf6 hnm hdm hnb hloW hF6 hris hfeet hLb
        go_wp2_with fail
        go_loopw [12, 13] (fun n i wx => ∃ (j : Nat) (pk : Bool), i = .int .i64 j ∧ j ≤ L.length ∧ n = .int .i64 (if (look key (L.take j)).isSome then 1 else 0) ∧ Cst dm wx (L.drop j) 0 pk ∧ Blk wx lb (enV (latE (look key L))) 32 ∧ Fr dm.foot w6 wx) (fun _ i _ => L.length + 1 - (intOf i).toNat)
        case atStart => exact ⟨0, false, rfl, Nat.zero_le _, by simp [look_nil], by simpa using hcm, hLb6, Fr.refl _ _⟩
        case round =>
          clear hcm hLb6
          obtain ⟨j, pk, rfl, hj, rfl, hC, hB, hG⟩ := hrel
          have ij : (j : Int) < 10000 := by omega
          by_cases hjn : j < L.length
          · have hx : L[j]? = some L[j] := List.getElem?_eq_getElem hjn
            rw [List.drop_eq_getElem_cons hjn] at hC
            have hlt := look_take (key := key) hx
            generalize L[j] = x at hx hC hlt
            have HN := Lib.hid (cnext_some HC.out.1 hC)
            have HO := Lib.hid (And.intro hB (And.intro hG (And.intro hx hlt)))
            clear hC hx hlt hB hG
            generalize hcn : (if (look key (L.take j)).isSome then (1 : Int) else 0) = cn
            have Hcn := Lib.hid hcn
            clear hcn
            go_wp2_with fail
            refine HN.out.mono ?_
            rintro en w7 ⟨rfl, hC7, hf7⟩
            obtain ⟨hB, hG, hx, hlt⟩ := HO.out
            have hB7 := hf7.blk hB HC.out.2.1
            have hG7 := hG.trans hf7 (fun _ _ h => h)
            have hX := Blk.at_new w7 (enV x) 32 _ _ rfl rfl
            have ga := (Fr.refl (fun _ => False) w7).alloc (.cells #[.string x.key, .string x.val, .bool x.gone] 32)
            have hC8 := hC7.new HC.out.1 ga
            have hB8 := ga.blk hB7 id
            have hG8 := hG7.alloc (.cells #[.string x.key, .string x.val, .bool x.gone] 32)
            clear hB hG hf7 hB7 hG7 hC7 HO ga HN
            go_upto_region 24 with fail
            simp only [enV, List.toArray] at hX
            generalize w7.alloc (.cells #[.string x.key, .string x.val, .bool x.gone] 32) = w8 at hX hC8 hB8 hG8 ⊢
            have x0 := hX.cell 0 rfl
            have x1 := hX.cell 1 rfl
            have x2 := hX.cell 2 rfl
            have hne := neqEn x
            by_cases hk : x.key = key
            · obtain ⟨o1, o2⟩ := look_once HC.out.2.2.2.2 hx
              rw [hk] at o1 o2
              rw [if_pos hk, o2] at hlt
              have hcn0 : cn = 0 := by rw [← Hcn.out, o2]; rfl
              subst hcn0
              rw [o1] at hB8
              have b0 := hB8.cell 0 rfl
              have b1 := hB8.cell 1 rfl
              have b2 := hB8.cell 2 rfl
              simp only [latE, Option.getD_some] at b0 b1 b2
              have h7 : (x.key.toList == key.toList) = true := by rw [hk]; simp
              have HO := Lib.hid (And.intro hC8 (And.intro hB8 (And.intro hG8 (And.intro hlt o1))))
              clear hC8 hB8 hG8 hlt o1 o2 hx hk hX
              go_wp2
              go_roundw
              case rel =>
                obtain ⟨hC8, hB8, hG8, hlt, o1⟩ := HO.out
                exact ⟨j + 1, _, by go_num, by omega, by rw [hlt]; rfl, hC8, by rw [o1]; exact hB8, hG8⟩
              case measure => simp [intOf]; omega
            · have h7 : (x.key.toList == key.toList) = false := toList_ne hk
              rw [if_neg hk] at hlt
              have HO := Lib.hid (And.intro hC8 (And.intro hB8 (And.intro hG8 hlt)))
              clear hC8 hB8 hG8 hlt hx hk hX
              go_wp2
              go_roundw
              case rel =>
                obtain ⟨hC8, hB8, hG8, hlt⟩ := HO.out
                exact ⟨j + 1, _, by go_num, by omega, by rw [hlt, Option.or_none, Hcn.out], hC8, hB8, hG8⟩
              case measure => simp [intOf]; omega
          · obtain rfl : j = L.length := by omega
            rw [List.drop_length] at hC
            rw [List.take_length]
            have HN := Lib.hid (cnext_end HC.out.1 hC)
            have HO := Lib.hid hG
            clear hC hB hG
            cases hlk : look key L with
            | none =>
              simp only [Option.isSome_none]
              go_wp2_with fail
              refine HN.out.mono ?_
              rintro en w7 ⟨rfl, hC7, hf7⟩
              have hG7 := HO.out.trans hf7 (fun _ _ h => h)
              have HF := Lib.hid (((HC.out.2.2.2.1.trans hG7 (fun i hi h => by have := HC.out.2.2.1 i h; omega))).alloc (.cells #[.string ⟨#[]⟩, .string ⟨#[]⟩, .bool false] 32))
              clear hC7 hf7 hG7 HN HO HC
              go_wp2
              go_ret
              exact ⟨rfl, HF.out⟩
            | some z =>
              simp only [Option.isSome_some]
              go_wp2_with fail
              refine HN.out.mono ?_
              rintro en w7 ⟨rfl, hC7, hf7⟩
              have hG7 := HO.out.trans hf7 (fun _ _ h => h)
              have HF := Lib.hid (((HC.out.2.2.2.1.trans hG7 (fun i hi h => by have := HC.out.2.2.1 i h; omega))).alloc (.cells #[.string ⟨#[]⟩, .string ⟨#[]⟩, .bool false] 32))
              clear hC7 hf7 hG7 HN HO HC
              go_wp2
              go_ret
              exact ⟨rfl, HF.out⟩
end Go.Proofs.Ytcpnjlnphjnhnaa

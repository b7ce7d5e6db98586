/- The reference's Merge, walked. Conditions: those of the lemmas. -/
import Derived.Test.YtcpnjlnphjnhnaaRMPre
import Derived.Deep.LoopGhost
namespace Go.Proofs.Ytcpnjlnphjnhnaa
open Go.RowKit
def toldR (r : RowD) : Rw := told none r.l r.e
theorem LdI.fr2 {S : Nat → Prop} {B : Nat} {W W' : World} {v : Value} {LD : List RowD} (h : LdI B W v LD) (hf : Fr S W W') (h1 : ∀ q, v.ownBlock = some q → ¬ S q) (h2 : ∀ r ∈ LD, ∀ ad, r.A = some ad → ¬ S ad.block) : LdI B W' v LD :=
  ⟨h.row.fr hf h1, h.own, fun r hr => by
    obtain ⟨a, b, c⟩ := h.es r hr
    refine ⟨a.fr hf (fun ad e => h2 r hr ad e), fun ad e => ?_, c⟩
    obtain ⟨cur, hc⟩ := b ad e
    exact ⟨cur, (hf.block _ (Array.getElem?_eq_some_iff.1 hc).1 (h2 r hr ad e)).trans hc⟩⟩
/-- The out row's own block is none of the rows'. -/
def Apart (v : Value) (LD : List RowD) : Prop := ∀ q, v.ownBlock = some q → ∀ r ∈ LD, ∀ ad, r.A = some ad → ad.block ≠ q
theorem Apart.set {v : Value} {LD : List RowD} (h : Apart v LD) {i : Nat} {r' r : RowD} (hr : LD[i]? = some r) (hb : ∀ ad, r'.A = some ad → ∃ ad2, r.A = some ad2 ∧ ad.block = ad2.block) : Apart v (LD.set i r') := fun q hq r2 h2 ad e => by
  rcases List.mem_or_eq_of_mem_set h2 with h3 | rfl
  · exact h q hq r2 h3 ad e
  · obtain ⟨ad2, e2, e3⟩ := hb ad e
    rw [e3]
    exact h q hq r (List.mem_of_getElem? hr) ad2 e2
set_option maxHeartbeats 4000000 in
set_option maxRecDepth 100000 in
theorem rmerge_any {W : World} {A : Option Addr} {cp : Nat} {rs : List RowD} (hR : RdR W A rs) (hn : rs.length ≤ 1000) (hfew : ∀ r ∈ rs, r.l.length ≤ 1000000) {L : List En} {E : Int} (hmg : Mg (rs.map toldR) L E) (hL : L.length ≤ 1000000) :
    Calls Try.prog 16 #[.slice A rs.length cp] W (NewRow W (L, E)) := by
  have hr := Blk.at_new W [.slice none 0 0, .int .i64 0] 24 _ _ rfl rfl
  have g := (Fr.refl (fun _ => False) W).alloc (.cells #[.slice none 0 0, .int .i64 0] 24)
  have HM := Lib.hid (And.intro hmg hL)
  clear hmg hL
  go_enter Try.func16, Try.ntmps16
  go_wp2_with fail
  simp only [List.toArray] at hr g
  generalize W.alloc (.cells #[.slice none 0 0, .int .i64 0] 24) = w1 at hr g ⊢
  go_loopw [3, 4] (fun v i wr => ∃ (j : Nat) (LD : List RowD), i = .int .i64 j ∧ j ≤ rs.length ∧ LD.length = j ∧ rwsOf LD = (rs.take j).map toldR ∧ LdI W.heap.size wr v LD ∧ Blk wr W.heap.size [.slice none 0 0, .int .i64 0] 24 ∧ Fr (fun _ => False) W wr ∧ v.ownBlock ≠ some W.heap.size) (fun _ i _ => rs.length - (intOf i).toNat)
  case atStart => exact ⟨0, [], rfl, Nat.zero_le _, rfl, rfl, ⟨RowK.nil _ _ _, fun q h => by simp [Value.ownBlock] at h, fun r h => by simp at h⟩, hr, g, by simp [Value.ownBlock]⟩
  case round =>
    clear hr g
    obtain ⟨j, LD, rfl, hj, hll, hrw, hD, hr, hF, hvr⟩ := hrel
    by_cases hjn : j < rs.length
    · have hx : rs[j]? = some rs[j] := List.getElem?_eq_getElem hjn
      have hmem := List.getElem_mem hjn
      generalize rs[j] = x at hx hmem
      have hR1 := hR.new hF
      obtain ⟨ad, hAe, a0, a1⟩ := hR1.cells hx
      subst hAe
      have ij : (j : Int) < (rs.length : Int) := by omega
      have ij0 : (0 : Int) ≤ (j : Int) := by omega
      have HT := Lib.hid (told_any (e := x.e) (cp := x.cp) (hR1.es x hmem) (hfew x hmem))
      have HO := Lib.hid (And.intro hD (And.intro hr (And.intro hF (And.intro hx (And.intro hrw hvr)))))
      have hrow := hD.row
      have hrl : ((rowsC LD).length + 1) * 32 ≤ 140737488355328 := by simp [rowsC]; omega
      clear hR1 hD hr hF hx hrw hvr
      go_wp2_with fail
      refine HT.out.mono ?_
      rintro en w4 ⟨A4, c4, rfl, hR4, hA4, hle4, hmx4, hf4⟩
      have hrow4 := hrow.fr hf4 (fun _ _ => id)
      clear HT hrow
      obtain ⟨⟨tl, te⟩, htt⟩ : ∃ t, told none x.l x.e = t := ⟨_, rfl⟩
      rw [htt] at hR4 hle4 ⊢
      simp only at hR4 hle4 ⊢
      have HTT := Lib.hid htt
      clear htt
      go_wp2_with (at_builtin; go_must (refine appK rfl _ _ 27 24 (.agg #[.slice none 0 0, .int .i64 0]) 2 32 rfl Try.underlying27 infoRow rfl (by decide) (by decide) u3 (rowsC LD) [.slice A4 tl.length c4, .int .i64 te] rfl rfl rfl (by simp [Value.oneCell']) hrow4 hrl ?_); intro g9 c9 w9 hR9 hor9 hf9 _)
      go_roundw
      case rel =>
        obtain ⟨hD, hr, hF, hx, hrw, hvr⟩ := HO.out
        have hD4 := hD.new hf4
        have hn9 : ∀ (k : Nat) (cur : Array Value), w4.heap[k]? = some (.cells cur 32 (0, 0)) → ¬ u3.ownBlock = some k := fun k cur hc hq => by
          obtain ⟨cur2, hc2⟩ := hD4.row.kind hq
          exact kinds_ne hc hc2 (by decide) rfl
        have hD9 : ∀ r ∈ LD, RdE w9 r.A r.l ∧ (∀ ad, r.A = some ad → ∃ cur : Array Value, w9.heap[ad.block]? = some (.cells cur 32 (0, 0))) ∧ r.l.length ≤ r.cp ∧ r.cp ≤ 9223372036854775807 := fun r hr => by
          obtain ⟨a, b, c⟩ := hD4.es r hr
          refine ⟨a.fr hf9 (fun ad e => ?_), fun ad e => ?_, c⟩
          · obtain ⟨cur, hc⟩ := b ad e
            exact hn9 _ cur hc
          · obtain ⟨cur, hc⟩ := b ad e
            exact ⟨cur, (hf9.block _ (Array.getElem?_eq_some_iff.1 hc).1 (hn9 _ cur hc)).trans hc⟩
        refine ⟨j + 1, LD ++ [⟨A4, c4, tl, te⟩], by go_num, by omega, by simp [hll], ?_, ⟨?_, fun q hq => ?_, fun r hr' => ?_⟩, hf9.blk (hf4.blk hr id) hvr, (hF.trans hf4 (fun _ _ h => h)).trans hf9 (fun i hi h => by have := hD.own i h; omega), fun h => ?_⟩
        · rw [take_succ hx, List.map_append]
          unfold rwsOf at hrw ⊢
          rw [List.map_append, hrw]
          simp only [List.map_cons, List.map_nil, toldR, HTT.out]
        · unfold rowsC at hR9 ⊢
          rw [List.map_append]
          exact hR9
        · have hq' : g9 = q := by simpa [Value.ownBlock] using hq
          subst hq'
          rcases hor9 with h | h
          · exact hD.own _ h
          · have := hF.size; have := hf4.size; omega
        · rcases List.mem_append.1 hr' with hr' | hr'
          · exact hD9 r hr'
          · rw [List.mem_singleton] at hr'
            subst hr'
            refine ⟨hR4.fr hf9 (fun ad e => ?_), fun ad e => ?_, hle4, hmx4⟩
            · obtain ⟨_, _, cur, hc⟩ := hA4 ad e
              exact hn9 _ cur hc
            · obtain ⟨_, _, cur, hc⟩ := hA4 ad e
              exact ⟨cur, (hf9.block _ (Array.getElem?_eq_some_iff.1 hc).1 (hn9 _ cur hc)).trans hc⟩
        · have h : g9 = W.heap.size := by simpa [Value.ownBlock] using h
          rcases hor9 with h2 | h2
          · rw [h] at h2; exact hvr h2
          · have := hr.lt; have := hf4.size; omega
      case measure => simp [intOf]; omega
    · obtain rfl : j = rs.length := by omega
      rw [List.take_length] at hrw
      obtain ⟨hmg, hL⟩ := HM.out
      rw [← hrw] at hmg
      obtain ⟨vA, vc, rfl⟩ := hD.row.slice
      have hvl : (rowsC LD).length = LD.length := by simp [rowsC]
      rw [hvl, hll] at hD hvr ⊢
      have hrd := hR.rd
      clear hR hrw hjn hj
      go_wp2_with fail
      generalize wr = wo at hD hr hF ⊢
      go_loopg [5] (totR (rwsOf LD)) (fun G out wr => ∃ (LD : List RowD) (outl l' : List En), totR (rwsOf LD) ≤ G ∧ LD.length = rs.length ∧ LdI W.heap.size wr (.slice vA rs.length vc) LD ∧ RowK wr 32 3 out (ens outl) ∧ (∀ q, out.ownBlock = some q → W.heap.size < q) ∧ L = outl ++ l' ∧ Mg (rwsOf LD) l' E ∧ Blk wr W.heap.size [.slice none 0 0, .int .i64 0] 24 ∧ Fr (fun _ => False) W wr ∧ Apart out LD)
      case atStart => exact ⟨LD, [], L, Nat.le_refl _, hll, hD, RowK.nil _ _ _, fun q h => by simp [Value.ownBlock] at h, rfl, hmg, hr, hF, fun q h => by simp [Value.ownBlock] at h⟩
      case round =>
        clear hD hr hF hmg hll
        obtain ⟨LD, outl, l', hG, hll, hD, hV, hVn, hLe, hmg, hr, hF, hap⟩ := hrel
        have HO := Lib.hid (And.intro hG (And.intro hLe hmg))
        clear hG hLe hmg
        go_wp2_with fail
        generalize wr = wo at hD hV hr hF ⊢
        go_loopw [6, 7] (fun b i w2 => ∃ (j : Nat) (bi : Int), i = .int .i64 j ∧ b = .int .i64 bi ∧ j ≤ rs.length ∧ errOf ((rwsOf LD).take j) = none ∧ BestN LD j bi ∧ Fr (fun _ => False) wo w2) (fun _ i _ => rs.length - (intOf i).toNat)
        case atStart => exact ⟨0, -1, rfl, rfl, Nat.zero_le _, rfl, rfl, Fr.refl _ _⟩
        case round =>
          obtain ⟨j, bi, rfl, rfl, hj, hE, hB, hf⟩ := hrel
          have hD := hD.new hf
          have hV := hV.fr hf (fun _ _ => id)
          have hr := hf.blk hr id
          have hF := hF.trans hf (fun _ _ h => h)
          have Hf := Lib.hid hf
          clear hf
          by_cases hjn : j < rs.length
          · have hx : LD[j]? = some (LD[j]'(by omega)) := List.getElem?_eq_getElem _
            generalize LD[j]'(by omega) = r at hx
            obtain ⟨e1, e2, e3, e4⟩ := hD.es r (List.mem_of_getElem? hx)
            obtain ⟨gr, rfl, _⟩ := hD.row.head (by omega)
            have hy : (rowsC LD)[j]? = some (rowC r) := by simp [rowsC, hx]
            have c0 := hD.row.cell j 0 hy rfl
            have c1' := hD.row.cell j 1 hy rfl
            rw [Nat.add_zero] at c0
            have ka : (⟨gr, 0, none⟩ : Addr).add (j * 2) = ⟨gr, j * 2, none⟩ := add_plain _ _
            have ij : (j : Int) < (rs.length : Int) := by omega
            have ij0 : (0 : Int) ≤ (j : Int) := by omega
            have hEt := errOf_take (rwsOf_at hx) hE
            have hBt := bestOf_take (rwsOf_at hx)
            obtain ⟨rA, rcp, rl, re⟩ := r
            simp only at e1 e2 e3 e4 c0 c1' hEt hBt
            rcases rl with _ | ⟨x, rl⟩
            · simp only [List.length_nil] at c0
              by_cases hre : re = 0
              · subst hre
                have HH := Lib.hid (And.intro (show errOf ((rwsOf LD).take (j + 1)) = none by rw [hEt]; rfl) (hB.same (by rw [hBt]; rfl)))
                clear hE hB hEt hBt hx hy e1 e2 e3 e4 hD hV hr hF
                go_wp2
                go_roundw
                case rel => exact ⟨j + 1, bi, by go_num, rfl, by omega, HH.out.1, HH.out.2, Hf.out⟩
                case measure => simp [intOf]; omega
              · have herr := errOf_some (rwsOf_at hx) hE rfl hre
                obtain ⟨hG, hLe, hmg⟩ := HO.out
                obtain ⟨q1, q2⟩ := hmg.det (.err herr)
                simp only at q2
                subst q1
                subst q2
                subst hLe
                clear hmg hG HO herr hE hB hEt hBt hx hy e1 e2 e3 e4
                obtain ⟨A1, c1, rfl, hrd, hle, hmx, _⟩ := hV.rd
                have hown := fun ad (h : A1 = some ad) => hV.at_own h
                rw [ens_len] at hV hle hown hVn ⊢
                have hkind := fun ad (h : A1 = some ad) => hV.kind (hown ad h)
                have r0 := hr.cell 0 rfl
                have r1 := hr.cell 1 rfl
                have f0 := hr.free 0
                have f1 := hr.free 1
                have hrl := hr.lt
                have HH := Lib.hid (And.intro hr (And.intro hF (And.intro hVn (And.intro hown (And.intro hrd (And.intro hle (And.intro hmx hkind)))))))
                clear hV hr hF hVn hown hrd hle hmx hkind hD
                go_wp2
                obtain ⟨hr, hF, hVn, hown, hrd, hle, hmx, hkind⟩ := HH.out
                have g9 : Fr (fun k => k = W.heap.size) wr ((wr.setCell ⟨W.heap.size, 0, none⟩ (.slice A1 outl.length c1)).setCell ⟨W.heap.size, 1, none⟩ (.int .i64 E)) := ((Fr.refl _ wr).set1 _ _).set1 _ _
                refine bodyPost_ret (results_cell_row rfl _ _ W.heap.size 24 #[.slice A1 outl.length c1, .int .i64 E] (0, 0) _ rfl ((hr.set 0 _).set 1 _) Try.underlying24 rfl (by kernel_rfl)) rfl ?_
                refine ⟨A1, c1, by simp, ?_, fun ad h => ⟨Nat.le_of_lt (hVn _ (hown ad h)), ?_⟩, by simpa using hle, by simpa [maxLen] using hmx, hF.trans g9 (fun i hi h => by omega)⟩
                · simp only [List.append_nil]
                  refine Rd.fr hrd g9 (fun ad h hh => ?_)
                  obtain ⟨cur, hc⟩ := hkind ad h
                  exact kinds_ne hc hr.out (by decide) hh
                · obtain ⟨cur, hc⟩ := hkind ad h
                  have hc2 := (g9.block _ (Array.getElem?_eq_some_iff.1 hc).1 (fun hh => kinds_ne hc hr.out (by decide) hh)).trans hc
                  exact ⟨(Array.getElem?_eq_some_iff.1 hc2).1, cur, hc2⟩
            · obtain ⟨ad, rfl, a0, a1, a2⟩ := e1.cells (i := 0) rfl
              rw [Nat.zero_mul, show ad.add 0 = ad by simp [Addr.add]] at a0 a1 a2
              simp only [List.length_cons] at c0 e3
              have hEn : errOf ((rwsOf LD).take (j + 1)) = none := by rw [hEt]; rfl
              have t0 : ((rl.length : Int) + 1 == 0) = false := by simp; omega
              have t1 : (0 : Int) < (rl.length : Int) + 1 := by omega
              cases hbb : bestOf ((rwsOf LD).take j) with
              | none =>
                have hu : bi = -1 := by unfold BestN at hB; rw [hbb] at hB; exact hB
                subst hu
                have HB := Lib.hid (And.intro hEn (BestN.new (j := j) (by rw [hBt, hbb]; rfl) hx rfl))
                clear hE hB hEt hBt hx hy e1 e2 e3 e4 hD hV hr hF hEn hbb
                go_upto_region 14 with fail
                go_quiet (fail)
                go_wp2
                go_roundw
                case rel => exact ⟨j + 1, (j : Int), by go_num, rfl, by omega, HB.out.1, HB.out.2, Hf.out.drewN nq⟩
                case measure => simp [intOf]; omega
              | some y =>
                have hB2 := hB
                unfold BestN at hB2
                rw [hbb] at hB2
                obtain ⟨k, rk, l2, rfl, hkj, hrk, hrkl⟩ := hB2
                obtain ⟨f1, f2, f3, f4⟩ := hD.es rk (List.mem_of_getElem? hrk)
                have hyk : (rowsC LD)[k]? = some (rowC rk) := by simp [rowsC, hrk]
                have d0 := hD.row.cell k 0 hyk rfl
                rw [Nat.add_zero] at d0
                have kak : (⟨gr, 0, none⟩ : Addr).add (k * 2) = ⟨gr, k * 2, none⟩ := add_plain _ _
                have ik : (k : Int) < (rs.length : Int) := by omega
                have ik0 : (0 : Int) ≤ (k : Int) := by omega
                have hg : decide ((k : Int) < 0) = false := decide_eq_false (by omega)
                obtain ⟨kA, kcp, kl, ke⟩ := rk
                simp only at hrkl f1 d0
                subst hrkl
                obtain ⟨ad2, rfl, p0, _, _⟩ := f1.cells (i := 0) rfl
                rw [Nat.zero_mul, show ad2.add 0 = ad2 by simp [Addr.add]] at p0
                simp only [List.length_cons] at d0
                have t2 : (0 : Int) < (l2.length : Int) + 1 := by omega
                cases hlt2 : sLt x.key y.key with
                | true =>
                  have h7 : Op.bytesLess x.key.toList y.key.toList = true := hlt2
                  have HB := Lib.hid (And.intro hEn (BestN.new (j := j) (x := x) (by rw [hBt, hbb]; simp [better, hlt2]) hx rfl))
                  clear hE hB hEt hBt hx hy e1 e2 e3 e4 hD hV hr hF hEn hbb hlt2 hrk hyk f1 f2 f3 f4
                  go_upto_region 14 with fail
                  go_quiet (fail)
                  go_wp2
                  go_roundw
                  case rel => exact ⟨j + 1, (j : Int), by go_num, rfl, by omega, HB.out.1, HB.out.2, Hf.out.drewN nq⟩
                  case measure => simp [intOf]; omega
                | false =>
                  have h7 : Op.bytesLess x.key.toList y.key.toList = false := hlt2
                  have HB := Lib.hid (And.intro hEn (hB.same (by rw [hBt, hbb]; simp [better, hlt2])))
                  clear hE hB hEt hBt hx hy e1 e2 e3 e4 hD hV hr hF hEn hbb hlt2 hrk hyk f1 f2 f3 f4
                  go_upto_region 14 with fail
                  go_quiet (fail)
                  go_wp2
                  go_roundw
                  case rel => exact ⟨j + 1, (k : Int), by go_num, rfl, by omega, HB.out.1, HB.out.2, Hf.out.drewN nq⟩
                  case measure => simp [intOf]; omega
          · obtain rfl : j = rs.length := by omega
            have hrl0 : (rwsOf LD).length = rs.length := by unfold rwsOf; rw [List.length_map, hll]
            rw [← hrl0, List.take_length] at hE
            unfold BestN at hB
            rw [← hrl0, List.take_length] at hB
            obtain ⟨hG, hLe, hmg⟩ := HO.out
            clear HO hj hjn
            cases hbb : bestOf (rwsOf LD) with
            | none =>
              rw [hbb] at hB
              simp only at hB
              subst hB
              obtain ⟨q1, q2⟩ := hmg.det (.fin hE hbb)
              subst q1
              subst q2
              subst hLe
              clear hmg hG hE hbb hrl0
              obtain ⟨A1, c1, rfl, hrd, hle, hmx, _⟩ := hV.rd
              have hown := fun ad (h : A1 = some ad) => hV.at_own h
              rw [ens_len] at hV hle hown hVn ⊢
              have hkind := fun ad (h : A1 = some ad) => hV.kind (hown ad h)
              have r0 := hr.cell 0 rfl
              have r1 := hr.cell 1 rfl
              have f0 := hr.free 0
              have f1 := hr.free 1
              have hrl := hr.lt
              have HH := Lib.hid (And.intro hr (And.intro hF (And.intro hVn (And.intro hown (And.intro hrd (And.intro hle (And.intro hmx hkind)))))))
              clear hV hr hF hVn hown hrd hle hmx hkind hD
              go_wp2
              obtain ⟨hr, hF, hVn, hown, hrd, hle, hmx, hkind⟩ := HH.out
              have g9 : Fr (fun k => k = W.heap.size) wr ((wr.setCell ⟨W.heap.size, 0, none⟩ (.slice A1 outl.length c1)).setCell ⟨W.heap.size, 1, none⟩ (.int .i64 0)) := ((Fr.refl _ wr).set1 _ _).set1 _ _
              refine bodyPost_ret (results_cell_row rfl _ _ W.heap.size 24 #[.slice A1 outl.length c1, .int .i64 0] (0, 0) _ rfl ((hr.set 0 _).set 1 _) Try.underlying24 rfl (by kernel_rfl)) rfl ?_
              refine ⟨A1, c1, by simp, ?_, fun ad h => ⟨Nat.le_of_lt (hVn _ (hown ad h)), ?_⟩, by simpa using hle, by simpa [maxLen] using hmx, hF.trans g9 (fun i hi h => by omega)⟩
              · simp only [List.append_nil]
                refine Rd.fr hrd g9 (fun ad h hh => ?_)
                obtain ⟨cur, hc⟩ := hkind ad h
                exact kinds_ne hc hr.out (by decide) hh
              · obtain ⟨cur, hc⟩ := hkind ad h
                have hc2 := (g9.block _ (Array.getElem?_eq_some_iff.1 hc).1 (fun hh => kinds_ne hc hr.out (by decide) hh)).trans hc
                exact ⟨(Array.getElem?_eq_some_iff.1 hc2).1, cur, hc2⟩
            | some x =>
              rw [hbb] at hB
              obtain ⟨k, rk, l2, rfl, hkj, hrk, hrkl⟩ := hB
              obtain ⟨l0, e0, hm0⟩ := Mg.ex _ ((rwsOf LD).map (dropK x.key)) (Nat.le_refl _)
              obtain ⟨q1, q2⟩ := hmg.det (.step hE hbb hm0)
              subst q1
              subst q2
              have htl := bestOf_less hbb
              obtain ⟨f1, f2, f3, f4⟩ := hD.es rk (List.mem_of_getElem? hrk)
              obtain ⟨gr, rfl, _⟩ := hD.row.head (by omega)
              have hyk : (rowsC LD)[k]? = some (rowC rk) := by simp [rowsC, hrk]
              have d0 := hD.row.cell k 0 hyk rfl
              rw [Nat.add_zero] at d0
              have kak : (⟨gr, 0, none⟩ : Addr).add (k * 2) = ⟨gr, k * 2, none⟩ := add_plain _ _
              have ik : (k : Int) < (rs.length : Int) := by omega
              have ik0 : (0 : Int) ≤ (k : Int) := by omega
              have hg : ¬ (k : Int) < 0 := by omega
              obtain ⟨kA, kcp, kl, ke⟩ := rk
              simp only at hrkl f1 d0
              subst hrkl
              obtain ⟨ad2, rfl, p0, p1, p2⟩ := f1.cells (i := 0) rfl
              rw [Nat.zero_mul, show ad2.add 0 = ad2 by simp [Addr.add]] at p0 p1 p2
              simp only [List.length_cons] at d0
              have t2 : (0 : Int) < (l2.length : Int) + 1 := by omega
              have hgr : gr ≠ W.heap.size := fun h => hvr (by rw [h]; rfl)
              have ga := (Fr.refl (fun _ => False) wr).alloc (.cells #[.string x.key, .string x.val, .bool x.gone] 32)
              have hX := Blk.at_new wr [.string x.key, .string x.val, .bool x.gone] 32 _ _ rfl rfl
              have HK := Lib.hid (And.intro (hD.new ga) (And.intro (hV.fr ga (fun _ _ => id)) (And.intro (ga.blk hr id) (And.intro (hF.trans ga (fun _ _ h => h)) (And.intro hm0 (And.intro htl (And.intro hG hLe)))))))
              have hnX : ∀ q, u5.ownBlock = some q → q ≠ wr.heap.size := fun q hq h => by have := hV.lt hq; omega
              clear hE hbb hmg hG hLe hm0 htl f1 f2 f3 f4 hyk hrk hD hV hr hF ga hrl0
              go_wp2_with fail
              simp only [List.toArray] at hX
              obtain ⟨hD, hV, hr, hF, hm0, htl, hG, hLe⟩ := HK.out
              generalize wr.alloc (.cells #[.string x.key, .string x.val, .bool x.gone] 32) = w5 at hX hD hV hr hF ⊢
              generalize wr.heap.size = xb at hX hnX ⊢
              clear d0 p0 p1 p2 HK
              go_loopw [9] (fun i wr => ∃ (j : Nat) (LD2 : List RowD), i = .int .i64 j ∧ j ≤ rs.length ∧ LD2.length = rs.length ∧ rwsOf LD2 = upTo x.key j (rwsOf LD) ∧ LdI W.heap.size wr (.slice (some ⟨gr, 0, none⟩) rs.length vc) LD2 ∧ RowK wr 32 3 u5 (ens outl) ∧ Blk wr xb [.string x.key, .string x.val, .bool x.gone] 32 ∧ Blk wr W.heap.size [.slice none 0 0, .int .i64 0] 24 ∧ Fr (fun _ => False) W wr ∧ Apart u5 LD2) (fun i _ => rs.length - (intOf i).toNat)
              case atStart => exact ⟨0, LD, rfl, Nat.zero_le _, hll, (upTo_zero _ _).symm, hD, hV, hX, hr, hF, hap⟩
              case round =>
                clear hD hV hX hr hF
                obtain ⟨j, LD2, rfl, hj, hl2, hrw, hD2, hV, hX, hr, hF, hap2⟩ := hrel
                have x0 := hX.cell 0 rfl
                by_cases hjn : j < rs.length
                · have hx2 : LD2[j]? = some (LD2[j]'(by omega)) := List.getElem?_eq_getElem _
                  generalize LD2[j]'(by omega) = r at hx2
                  obtain ⟨e1, e2, e3, e4⟩ := hD2.es r (List.mem_of_getElem? hx2)
                  have hx3 : (rwsOf LD)[j]? = some (r.l, r.e) := by rw [← upTo_this x.key j, ← hrw]; exact rwsOf_at hx2
                  have hy2 : (rowsC LD2)[j]? = some (rowC r) := by simp [rowsC, hx2]
                  have b0 := hD2.row.cell j 0 hy2 rfl
                  rw [Nat.add_zero] at b0
                  have b0f := hD2.row.free (j * 2)
                  obtain ⟨cuR, huR⟩ := hD2.row.kind (q := gr) rfl
                  have b0l : gr < wr.heap.size := (Array.getElem?_eq_some_iff.1 huR).1
                  clear huR hy2
                  have ka : (⟨gr, 0, none⟩ : Addr).add (j * 2) = ⟨gr, j * 2, none⟩ := add_plain _ _
                  have ij : (j : Int) < (rs.length : Int) := by omega
                  have ij0 : (0 : Int) ≤ (j : Int) := by omega
                  obtain ⟨rA, rcp, rl, re⟩ := r
                  simp only at e1 e2 e3 e4 b0 hx3
                  rcases rl with _ | ⟨y, rl⟩
                  · simp only [List.length_nil] at b0
                    have HH := Lib.hid (And.intro (show rwsOf LD2 = upTo x.key (j + 1) (rwsOf LD) by rw [hrw, upTo_keep hx3 rfl]) (And.intro hD2 (And.intro hV (And.intro hX (And.intro hr hF)))))
                    clear hD2 hV hX hr hF hrw hx2 hx3 e1 e2
                    go_upto_region 22 with fail
                    go_quiet (fail)
                    go_wp2
                    go_roundw
                    case rel =>
                      have gd := (Fr.refl (fun _ => False) wr).drewN nq
                      exact ⟨j + 1, LD2, by go_num, by omega, hl2, HH.out.1, HH.out.2.1.new gd, HH.out.2.2.1.fr gd (fun _ _ => id), HH.out.2.2.2.1.drewN nq, HH.out.2.2.2.2.1.drewN nq, HH.out.2.2.2.2.2.drewN nq, hap2⟩
                    case measure => simp [intOf]; omega
                  · obtain ⟨ad2, rfl, p0, _, _⟩ := e1.cells (i := 0) rfl
                    rw [Nat.zero_mul, show ad2.add 0 = ad2 by simp [Addr.add]] at p0
                    simp only [List.length_cons] at b0 e3
                    have t1 : (0 : Int) < (rl.length : Int) + 1 := by omega
                    by_cases hkey : y.key = x.key
                    · have h7 : (y.key.toList == x.key.toList) = true := by rw [hkey]; simp
                      by_cases hcp : rcp = 1
                      · subst hcp
                        obtain rfl : rl = [] := List.eq_nil_of_length_eq_zero (by omega)
                        simp only [List.length_nil, Nat.zero_add, Int.natCast_zero, Int.zero_add, Int.ofNat_zero] at b0 t1
                        have HH := Lib.hid (And.intro hD2 (And.intro hV (And.intro hX (And.intro hr (And.intro hF (And.intro hrw (And.intro hx2 (And.intro hx3 (And.intro e1 (And.intro e2 (And.intro e4 hkey)))))))))))
                        clear hD2 hV hX hr hF hrw hx2 hx3 e1 e2 hkey
                        go_upto_region 22 with fail
                        go_quiet (fail)
                        go_wp2
                        go_roundw
                        case rel =>
                          obtain ⟨hD2, hV, hX, hr, hF, hrw, hx2, hx3, e1, e2, e4, hkey⟩ := HH.out
                          have gd := (Fr.refl (fun _ => False) wr).drewN nq
                          have hcut := (hD2.new gd).cut (i := j) (r' := ⟨some ad2, 0, [], re⟩) hx2 rfl (fun j v hv => by simp [ens] at hv) (fun ad h => by
                            injection h with h
                            subst h
                            obtain ⟨cur, hc⟩ := e2 ad2 rfl
                            exact ⟨cur, (gd.block _ (Array.getElem?_eq_some_iff.1 hc).1 id).trans hc⟩) (by simp only; omega) (by simp only; omega)
                          have hrw2 : rwsOf (LD2.set j ⟨some ad2, 0, [], re⟩) = upTo x.key (j + 1) (rwsOf LD) := by
                            rw [rwsOf_set, hrw, upTo_step hx3, show dropK x.key ([y], re) = ([], re) by simp [dropK, hkey]]
                          obtain ⟨cu2, hu2⟩ := hD2.row.kind (q := gr) rfl
                          have gs : Fr (fun q => q = gr) wr ((wr.drewN nq).setCell ⟨gr, j * 2, none⟩ (.slice (some ad2) 0 0)) := ((Fr.refl _ wr).drewN nq).set1 _ _
                          exact ⟨j + 1, _, by go_num, by omega, by simp [hl2], hrw2, hcut, hV.fr gs (fun q hq hh => by
                            obtain ⟨cu1, hu1⟩ := hV.kind hq
                            subst hh
                            exact kinds_ne hu1 hu2 (by decide) rfl), gs.blk hX (fun hh => by subst hh; exact kinds_ne hX.out hu2 (by decide) rfl), gs.blk hr (fun hh => hgr hh.symm), hF.trans gs (fun i hi hh => by have := hD2.own gr rfl; omega), hap2.set hx2 (fun ad h => ⟨ad2, rfl, by injection h with h; rw [h]⟩)⟩
                        case measure => simp [intOf]; omega
                      · have hcp2 : 1 < rcp := by omega
                        have HH := Lib.hid (And.intro hD2 (And.intro hV (And.intro hX (And.intro hr (And.intro hF (And.intro hrw (And.intro hx2 (And.intro hx3 (And.intro e1 (And.intro e2 (And.intro e4 hkey)))))))))))
                        clear hD2 hV hX hr hF hrw hx2 hx3 e1 e2 hkey
                        go_upto_region 22 with fail
                        go_quiet (fail)
                        go_wp2
                        go_roundw
                        case rel =>
                          obtain ⟨hD2, hV, hX, hr, hF, hrw, hx2, hx3, e1, e2, e4, hkey⟩ := HH.out
                          have gd := (Fr.refl (fun _ => False) wr).drewN nq
                          have hcut := (hD2.new gd).cut (i := j) (r' := ⟨some ⟨ad2.block, ad2.off + 3, none⟩, rcp - 1, rl, re⟩) hx2 rfl (Rd.fr (RdE.tail e1) gd (fun _ _ => id)) (fun ad h => by
                            injection h with h
                            subst h
                            obtain ⟨cur, hc⟩ := e2 ad2 rfl
                            exact ⟨cur, (gd.block _ (Array.getElem?_eq_some_iff.1 hc).1 id).trans hc⟩) (by simp only; omega) (by simp only; omega)
                          have hrw2 : rwsOf (LD2.set j ⟨some ⟨ad2.block, ad2.off + 3, none⟩, rcp - 1, rl, re⟩) = upTo x.key (j + 1) (rwsOf LD) := by
                            rw [rwsOf_set, hrw, upTo_step hx3, show dropK x.key (y :: rl, re) = (rl, re) by simp [dropK, hkey]]
                          obtain ⟨cu2, hu2⟩ := hD2.row.kind (q := gr) rfl
                          have gs : Fr (fun q => q = gr) wr ((wr.drewN nq).setCell ⟨gr, j * 2, none⟩ (.slice (some ⟨ad2.block, ad2.off + 3, none⟩) rl.length (rcp - 1))) := ((Fr.refl _ wr).drewN nq).set1 _ _
                          exact ⟨j + 1, _, by go_num, by omega, by simp [hl2], hrw2, hcut, hV.fr gs (fun q hq hh => by
                            obtain ⟨cu1, hu1⟩ := hV.kind hq
                            subst hh
                            exact kinds_ne hu1 hu2 (by decide) rfl), gs.blk hX (fun hh => by subst hh; exact kinds_ne hX.out hu2 (by decide) rfl), gs.blk hr (fun hh => hgr hh.symm), hF.trans gs (fun i hi hh => by have := hD2.own gr rfl; omega), hap2.set hx2 (fun ad h => ⟨ad2, rfl, by injection h with h; rw [← h]⟩)⟩
                        case measure => simp [intOf]; omega
                    · have h7 : (y.key.toList == x.key.toList) = false := toList_ne hkey
                      have HH := Lib.hid (And.intro (show rwsOf LD2 = upTo x.key (j + 1) (rwsOf LD) by rw [hrw, upTo_keep hx3 (by simp [dropK, hkey])]) (And.intro hD2 (And.intro hV (And.intro hX (And.intro hr hF)))))
                      clear hD2 hV hX hr hF hrw hx2 hx3 e1 e2 hkey
                      go_upto_region 22 with fail
                      go_quiet (fail)
                      go_wp2
                      go_roundw
                      case rel =>
                        have gd := (Fr.refl (fun _ => False) wr).drewN nq
                        exact ⟨j + 1, LD2, by go_num, by omega, hl2, HH.out.1, HH.out.2.1.new gd, HH.out.2.2.1.fr gd (fun _ _ => id), HH.out.2.2.2.1.drewN nq, HH.out.2.2.2.2.1.drewN nq, HH.out.2.2.2.2.2.drewN nq, hap2⟩
                      case measure => simp [intOf]; omega
                · obtain rfl : j = rs.length := by omega
                  have x1 := hX.cell 1 rfl
                  have x2 := hX.cell 2 rfl
                  have hVl : ((ens outl).length + 1) * 40 ≤ 140737488355328 := by rw [ens_len]; have := congrArg List.length hLe; simp at this; omega
                  have HH := Lib.hid (And.intro hD2 (And.intro hX (And.intro hr (And.intro hF hrw))))
                  clear hD2 hX hr hF hrw hjn hj
                  go_wp2_with (at_builtin; go_must (refine appK rfl _ _ 22 32 (.agg #[.string ⟨#[]⟩, .string ⟨#[]⟩, .bool false]) 3 40 rfl Try.underlying22 infoEn rfl (by decide) (by decide) u5 (ens outl) (enV x) rfl rfl rfl (by simp [enV, Value.oneCell']) hV hVl ?_); intro g9 c9 w9 hR9 hor9 hf9 _)
                  go_roundg (totR ((rwsOf LD).map (dropK x.key)))
                  case measure => omega
                  case rel =>
                    obtain ⟨hD2, hX, hr, hF, hrw⟩ := HH.out
                    rw [upTo_end _ _ _ (by unfold rwsOf; rw [List.length_map]; omega)] at hrw
                    have hn9 : ∀ (k : Nat) (cur : Array Value), wr.heap[k]? = some (.cells cur 24 (0, 0)) → ¬ u5.ownBlock = some k := fun k cur hc hq => by
                      obtain ⟨cur2, hc2⟩ := hV.kind hq
                      exact kinds_ne hc2 hc (by decide) rfl
                    have hDo := hD2.own gr rfl
                    refine ⟨LD2, outl ++ [x], l0, by rw [hrw]; exact Nat.le_refl _, hl2, hD2.fr2 hf9 (fun q hq => ?_) (fun r hr ad e hh => hap2 _ hh r hr ad e rfl), ?_, fun q hq => ?_, by rw [hLe]; simp, by rw [hrw]; exact hm0, hf9.blk hr (fun hh => ?_), hF.trans hf9 (fun i hi hh => ?_), fun q hq r hr ad e hh => ?_⟩
                    · obtain ⟨cur, hc⟩ := hD2.row.kind hq
                      exact hn9 _ cur hc
                    · rw [ens_snoc]; exact hR9
                    · have hq' : g9 = q := by simpa [Value.ownBlock] using hq
                      subst hq'
                      rcases hor9 with h | h
                      · exact hVn _ h
                      · have := hr.lt; omega
                    · have := hVn _ hh; omega
                    · have := hVn _ hh; omega
                    · have hq' : g9 = q := by simpa [Value.ownBlock] using hq
                      subst hq'
                      rcases hor9 with h | h
                      · exact hap2 _ h r hr ad e hh
                      · obtain ⟨_, b, _⟩ := hD2.es r hr
                        obtain ⟨cur, hc⟩ := b ad e
                        have := (Array.getElem?_eq_some_iff.1 hc).1
                        omega
end Go.Proofs.Ytcpnjlnphjnhnaa

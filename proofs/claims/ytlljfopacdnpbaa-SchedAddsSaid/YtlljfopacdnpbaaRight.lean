/- right: programs whose cells and mutexes are there. Conditions: those of the lemmas. -/
import Derived.Test.YtlljfopacdnpbaaAwake
import Derived.Test.YtlljfopacdnpbaaAppN
namespace Go.Proofs.Ytlljfopacdnpbaa
open Go.RowKit
theorem RowK.at_own {w : World} {e : TypeId} {k : Nat} {A : Option Addr} {n c : Nat} {ys : List (List Value)} (h : RowK w e k (.slice A n c) ys) {ad : Addr} (ha : A = some ad) : (Value.slice A n c).ownBlock = some ad.block := by
  rcases h.form with ⟨h', _⟩ | ⟨g, c', cur, h', _⟩
  · injection h' with h1
    rw [h1] at ha
    cases ha
  · injection h' with h1
    subst h1
    injection ha with ha
    subst ha
    rfl
def uMod (m x : Int) : Int := x % 18446744073709551616 % m
theorem uMod_eq (m : Int) (hm : 0 < m) (h9 : m ≤ 1000) (x : Int) : wrap64 ((IntKind.u64.wrap x).tmod m) = uMod m x := by
  have h1 : IntKind.u64.wrap x = x % 18446744073709551616 := by simp [IntKind.wrap, IntKind.bits, IntKind.signed]
  rw [h1]
  unfold uMod
  have h0 : 0 ≤ x % 18446744073709551616 := Int.emod_nonneg _ (by decide)
  rw [Int.tmod_eq_emod_of_nonneg h0]
  have h2 := Int.emod_nonneg (x % 18446744073709551616) (show m ≠ 0 by omega)
  have h3 := Int.emod_lt_of_pos (x % 18446744073709551616) hm
  exact IntWalk.wrap64_in _ (by omega)
def norm (x : Ins) : Ins := ⟨x.kind, uMod 4 x.cell, x.n.tmod 1000, uMod 5 x.mutex, uMod 5 x.free⟩
theorem norm_ok (x : Ins) : (norm x).ok := by
  unfold Ins.ok norm uMod
  simp only
  omega
def insK (l : List Ins) : List (List Value) := l.map insV
theorem insK_len (l : List Ins) : (insK l).length = l.length := by simp [insK]
theorem insK_snoc (l : List Ins) (x : Ins) : insK (l ++ [x]) = insK l ++ [insV x] := by simp [insK]
theorem infoIns : (Try.prog.info? 73).map (fun i => (i.zero, i.size, i.bytes)) = some (some (.agg #[.int .i64 0, .int .i64 0, .int .i64 0, .int .i64 0, .int .i64 0]), 5, 40) := by kernel_rfl
theorem infoInsL : (Try.prog.info? 67).map (fun i => (i.zero, i.size, i.bytes)) = some (some (.slice none 0 0), 1, 24) := by kernel_rfl
def ptV (p : PT) : Value := .slice p.A p.l.length p.cp
theorem take_succ' {α : Type} {l : List α} {j : Nat} {x : α} (h : l[j]? = some x) : l.take (j + 1) = l.take j ++ [x] := by
  rw [List.take_add_one, h]
  rfl
/-- The programs that are made; B: where the new memory begins. -/
structure Made (W : World) (B : Nat) (ps : List PT) (ls : List (List Ins)) : Prop where
  same : ps.map (·.l) = ls
  rd : ∀ p ∈ ps, Rd W p.A (insR p.l) ∧ ∀ ad, p.A = some ad → B ≤ ad.block ∧ ∃ cur : Array Value, W.heap[ad.block]? = some (.cells cur 73 (0, 0))
theorem Made.fr {S : Nat → Prop} {W W' : World} {B : Nat} {ps : List PT} {ls : List (List Ins)} (h : Made W B ps ls) (hf : Fr S W W') (hS : ∀ p ∈ ps, ∀ ad, p.A = some ad → ¬ S ad.block) : Made W' B ps ls :=
  ⟨h.same, fun p hp => ⟨(h.rd p hp).1.fr hf (hS p hp), fun ad e => by
    obtain ⟨h1, cur, hc⟩ := (h.rd p hp).2 ad e
    exact ⟨h1, cur, (hf.block _ (Array.getElem?_eq_some_iff.1 hc).1 (hS p hp ad e)).trans hc⟩⟩⟩
theorem Made.snoc {W : World} {B : Nat} {ps : List PT} {ls : List (List Ins)} (h : Made W B ps ls) (p : PT) (l : List Ins) (hl : p.l = l) (h1 : Rd W p.A (insR p.l)) (h2 : ∀ ad, p.A = some ad → B ≤ ad.block ∧ ∃ cur : Array Value, W.heap[ad.block]? = some (.cells cur 73 (0, 0))) : Made W B (ps ++ [p]) (ls ++ [l]) :=
  ⟨by rw [List.map_append, h.same, ← hl]; rfl, fun q hq => by
    rcases List.mem_append.1 hq with hq | hq
    · exact h.rd q hq
    · rw [List.mem_singleton] at hq
      subst hq
      exact ⟨h1, h2⟩⟩
set_option maxHeartbeats 4000000 in
set_option maxRecDepth 100000 in
theorem right_gen {RES : List (List Ins)} {W : World} {A0 : Option Addr} {cp0 : Nat} {ls : List PT} (hL : Rd W A0 (ls.map ptV)) (hP : ∀ p ∈ ls, Rd W p.A (insR p.l)) (HRES : Hid ((ls.take 8).map (fun p => (p.l.take 60).map norm) = RES)) :
    Calls Try.prog 8 #[.slice A0 ls.length cp0] W fun e W' => ∃ A1 cp1 ps, e = .returned (.slice A1 (ps : List PT).length cp1) ∧ Made W' W.heap.size ps RES ∧ Rd W' A1 (ps.map ptV) ∧ Fr (fun _ => False) W W' := by
  go_enter Try.func8, Try.ntmps8
  go_wp2_with fail
  go_loopw [3, 4] (fun v i wr => ∃ (j : Nat) (ps : List PT), i = .int .i64 j ∧ j ≤ ls.length ∧ j ≤ 8 ∧ Row wr 67 v (ps.map ptV) ∧ (∀ q, v.ownBlock = some q → W.heap.size ≤ q) ∧ Made wr W.heap.size ps ((ls.take j).map fun p => (p.l.take 60).map norm) ∧ Fr (fun _ => False) W wr) (fun _ i _ => ls.length - (intOf i).toNat)
  case atStart => exact ⟨0, [], rfl, Nat.zero_le _, by omega, Row.nil _ _, fun q h => by simp [Value.ownBlock] at h, ⟨rfl, fun p hp => by simp at hp⟩, Fr.refl _ _⟩
  case round =>
    obtain ⟨j, ps, rfl, hj, hj8, hV, hVn, hM, hF⟩ := hrel
    by_cases hjn : j < ls.length
    · by_cases hj9 : j < 8
      · have hx : ls[j]? = some ls[j] := List.getElem?_eq_getElem hjn
        have hmem := List.getElem_mem hjn
        generalize ls[j] = p at hx hmem
        have hL1 := hL.fr hF (fun _ _ => id)
        obtain ⟨ad, hAe, a0⟩ := hL1 j (ptV p) (by rw [List.getElem?_map, hx]; rfl)
        subst hAe
        have ij : (j : Int) < (ls.length : Int) := by omega
        have ij0 : (0 : Int) ≤ (j : Int) := by omega
        have ij8 : (j : Int) < 8 := by omega
        unfold ptV at a0
        have hpl : ps.length = j := by
          have := congrArg List.length hM.same
          simp at this
          omega
        have HO := Lib.hid (And.intro hV (And.intro hVn (And.intro hM (And.intro hF (And.intro hx hpl)))))
        have hsz0 := hF.size
        clear hV hVn hM hx hpl hL1
        go_wp2_with fail
        generalize wr = wo at HO a0 hsz0 ⊢
        go_loopw [5, 6] (fun lv k w2 => ∃ (m : Nat), k = .int .i64 m ∧ m ≤ p.l.length ∧ m ≤ 60 ∧ RowK w2 73 5 lv (insK ((p.l.take m).map norm)) ∧ (∀ q, lv.ownBlock = some q → wo.heap.size ≤ q) ∧ Fr (fun _ => False) wo w2) (fun _ k _ => p.l.length - (intOf k).toNat)
        case atStart => exact ⟨0, rfl, Nat.zero_le _, by omega, RowK.nil _ _ _, fun q h => by simp [Value.ownBlock] at h, Fr.refl _ _⟩
        case round =>
          obtain ⟨m, rfl, hm, hm60, hK, hKn, hG⟩ := hrel
          have a1 := hG.cell a0 id
          by_cases hml : m < p.l.length
          · by_cases hm6 : m < 60
            · have hy : p.l[m]? = some p.l[m] := List.getElem?_eq_getElem hml
              generalize p.l[m] = y at hy
              have hR := (((hP p hmem).fr HO.out.2.2.2.1 (fun _ _ => id)).fr hG (fun _ _ => id))
              obtain ⟨ad2, hAe2, q0, q1, q2, q3, q4⟩ := ins_cells hR hy
              have im : (m : Int) < (p.l.length : Int) := by omega
              have im0 : (0 : Int) ≤ (m : Int) := by omega
              have im6 : (m : Int) < 60 := by omega
              rw [hAe2] at a1
              have u1 := uMod_eq 4 (by decide) (by decide) y.cell
              have u2 := uMod_eq 5 (by decide) (by decide) y.mutex
              have u3' := uMod_eq 5 (by decide) (by decide) y.free
              go_upto_region 14 with fail
              have hX := Blk.at_new wr (insV (norm y)) 73 _ _ rfl rfl
              have g6 := (Fr.refl (fun _ => False) wr).alloc (.cells (insV (norm y)).toArray 73)
              have hK6 := hK.fr g6 (fun _ _ => id)
              have hG6 := hG.trans g6 (fun _ _ h => h)
              have hKl : (insK ((p.l.take m).map norm)).length ≤ 60 := by rw [insK_len, List.length_map, List.length_take]; omega
              have hKn' : insK ((p.l.take (m + 1)).map norm) = insK ((p.l.take m).map norm) ++ [insV (norm y)] := by rw [take_succ' hy, List.map_append]; exact insK_snoc _ _
              generalize insK ((p.l.take m).map norm) = KK at hK6 hKl hKn'
              have HY := Lib.hid (And.intro hKn' hKn)
              clear hKn' hKn
              clear q0 q1 q2 q3 q4 u1 u2 u3' hK hG hy hR g6
              simp only [insV, norm, List.toArray] at hX hK6 hG6
              generalize wr.alloc (.cells #[.int .i64 y.kind, .int .i64 (uMod 4 y.cell), .int .i64 (y.n.tmod 1000), .int .i64 (uMod 5 y.mutex), .int .i64 (uMod 5 y.free)] 73) = w6 at hX hK6 hG6 ⊢
              have x0 := hX.cell 0 rfl
              have x1 := hX.cell 1 rfl
              have x2 := hX.cell 2 rfl
              have x3 := hX.cell 3 rfl
              have x4 := hX.cell 4 rfl
              go_wp2_with (at_builtin; go_must (refine appK rfl _ _ 67 73 (.agg #[.int .i64 0, .int .i64 0, .int .i64 0, .int .i64 0, .int .i64 0]) 5 40 rfl Try.underlying67 infoIns rfl (by decide) (by decide) u5 KK (insV (norm y)) rfl rfl rfl (by simp [insV, Value.oneCell']) hK6 (by omega) ?_); intro g2 c2 w8 hR8 hor8 hf8 _)
              go_roundw
              case rel =>
                refine ⟨m + 1, by go_num, by omega, by omega, by rw [HY.out.1]; exact hR8, fun q hq => ?_, hG6.trans hf8 (fun i hi h => by have := HY.out.2 i h; omega)⟩
                have hq' : g2 = q := by simpa [Value.ownBlock] using hq
                subst hq'
                rcases hor8 with h | h
                · exact HY.out.2 _ h
                · have := hG6.size; omega
              case measure => simp [intOf]; omega
            · have hme : m = 60 := by omega
              have hpn : (p.l.take m).map norm = (p.l.take 60).map norm := by
                congr 1
                refine List.ext_getElem? (fun i => ?_)
                rw [List.getElem?_take, List.getElem?_take]
                by_cases h1 : i < m
                · rw [if_pos h1, if_pos (by omega)]
                · rw [if_neg h1]
                  split
                  · exact (List.getElem?_eq_none (by omega)).symm
                  · rfl
              rw [hpn] at hK
              obtain ⟨A1, c1, rfl, hrd1, hle1, hmx1, _⟩ := hK.rd
              have hown := fun ad (h : A1 = some ad) => hK.at_own h
              rw [insK_len] at hK hown hKn ⊢
              have im : ¬ (m : Int) < 60 := by omega
              obtain ⟨hV, hVn, hM, hF, hx, hpl⟩ := HO.out
              have hV2 := hV.fr hG (fun _ _ => id)
              have hM2 := hM.fr hG (fun _ _ _ _ => id)
              have hF2 := hF.trans hG (fun _ _ h => h)
              have hAlt := fun ad (h : A1 = some ad) => hK.lt (hown ad h)
              have hkind := fun ad (h : A1 = some ad) => hK.kind (hown ad h)
              have HH := Lib.hid (And.intro hM2 (And.intro hF2 (And.intro hrd1 (And.intro hx (And.intro hVn (And.intro (fun ad h => hKn _ (hown ad h)) (And.intro hAlt (And.intro hkind (And.intro hsz0 hpl)))))))))
              have hrl : ((ps.map ptV).length + 1) * 24 ≤ 140737488355328 := by rw [List.length_map, hpl]; omega
              clear hV hVn hM hF hx hM2 hF2 hAlt hkind hK hKn hown hrd1 HO hG hpl hsz0
              generalize hpp : (p.l.take 60).map norm = pl at HH ⊢
              have Hpp := Lib.hid hpp
              clear hpp hpn
              have HV := Lib.hid hV2
              clear hV2
              go_wp2_with (at_builtin; go_must (refine app1 rfl _ _ 22 67 (.slice none 0 0) 24 rfl Try.underlying22 infoInsL rfl (by decide) u3 (ps.map ptV) (.slice A1 pl.length c1) rfl rfl rfl HV.out hrl ?_); intro g9 c9 w9 hR9 hor9 hf9 _)
              go_roundw
              case rel =>
                obtain ⟨hM2, hF2, hrd1, hx, hVn, hlo, hAlt, hkind, hsz0, hpl⟩ := HH.out
                have hne : ∀ q, u3.ownBlock = some q → ∀ (cur : Array Value), wr.heap[q]? = some (.cells cur 73 (0, 0)) → False := fun q hq cur hc => by
                  obtain ⟨cur2, hc2⟩ := HV.out.kind hq
                  exact kinds_ne hc hc2 (by decide) rfl
                refine ⟨j + 1, ps ++ [⟨A1, c1, pl⟩], by go_num, by omega, by omega, ?_, fun q hq => ?_, ?_, hF2.trans hf9 (fun i hi h => by have := hVn i h; omega)⟩
                · rw [List.map_append]
                  rw [List.length_map] at hR9
                  exact hR9
                · have hq' : g9 = q := by simpa [Value.ownBlock] using hq
                  subst hq'
                  rcases hor9 with h | h
                  · exact hVn _ h
                  · have := hF2.size; omega
                · rw [take_succ' hx, List.map_append]
                  refine Made.snoc (hM2.fr hf9 (fun p hp ad e hh => ?_)) ⟨A1, c1, pl⟩ _ Hpp.out.symm (Rd.fr hrd1 hf9 (fun ad e hh => ?_)) (fun ad e => ?_)
                  · obtain ⟨_, cur, hc⟩ := (hM2.rd p hp).2 ad e
                    exact hne _ hh cur hc
                  · obtain ⟨cur, hc⟩ := hkind ad e
                    exact hne _ hh cur hc
                  · obtain ⟨cur, hc⟩ := hkind ad e
                    exact ⟨by have := hlo ad e; omega, cur, (hf9.block _ (hAlt ad e) (fun hh => hne _ hh cur hc)).trans hc⟩
              case measure => simp [intOf]; omega
          · have hme : m = p.l.length := by omega
            have hpn : (p.l.take m).map norm = (p.l.take 60).map norm := by
              congr 1
              refine List.ext_getElem? (fun i => ?_)
              rw [List.getElem?_take, List.getElem?_take]
              by_cases h1 : i < m
              · rw [if_pos h1, if_pos (by omega)]
              · rw [if_neg h1]
                split
                · exact (List.getElem?_eq_none (by omega)).symm
                · rfl
            rw [hpn] at hK
            obtain ⟨A1, c1, rfl, hrd1, hle1, hmx1, _⟩ := hK.rd
            have hown := fun ad (h : A1 = some ad) => hK.at_own h
            rw [insK_len] at hK hown hKn ⊢
            have im : ¬ (m : Int) < (p.l.length : Int) := by omega
            obtain ⟨hV, hVn, hM, hF, hx, hpl⟩ := HO.out
            have hV2 := hV.fr hG (fun _ _ => id)
            have hM2 := hM.fr hG (fun _ _ _ _ => id)
            have hF2 := hF.trans hG (fun _ _ h => h)
            have hAlt := fun ad (h : A1 = some ad) => hK.lt (hown ad h)
            have hkind := fun ad (h : A1 = some ad) => hK.kind (hown ad h)
            have HH := Lib.hid (And.intro hM2 (And.intro hF2 (And.intro hrd1 (And.intro hx (And.intro hVn (And.intro (fun ad h => hKn _ (hown ad h)) (And.intro hAlt (And.intro hkind (And.intro hsz0 hpl)))))))))
            have hrl : ((ps.map ptV).length + 1) * 24 ≤ 140737488355328 := by rw [List.length_map, hpl]; omega
            clear hV hVn hM hF hx hM2 hF2 hAlt hkind hK hKn hown hrd1 HO hG hpl hsz0
            generalize hpp : (p.l.take 60).map norm = pl at HH ⊢
            have Hpp := Lib.hid hpp
            clear hpp hpn
            have HV := Lib.hid hV2
            clear hV2
            go_wp2_with (at_builtin; go_must (refine app1 rfl _ _ 22 67 (.slice none 0 0) 24 rfl Try.underlying22 infoInsL rfl (by decide) u3 (ps.map ptV) (.slice A1 pl.length c1) rfl rfl rfl HV.out hrl ?_); intro g9 c9 w9 hR9 hor9 hf9 _)
            go_roundw
            case rel =>
              obtain ⟨hM2, hF2, hrd1, hx, hVn, hlo, hAlt, hkind, hsz0, hpl⟩ := HH.out
              have hne : ∀ q, u3.ownBlock = some q → ∀ (cur : Array Value), wr.heap[q]? = some (.cells cur 73 (0, 0)) → False := fun q hq cur hc => by
                obtain ⟨cur2, hc2⟩ := HV.out.kind hq
                exact kinds_ne hc hc2 (by decide) rfl
              refine ⟨j + 1, ps ++ [⟨A1, c1, pl⟩], by go_num, by omega, by omega, ?_, fun q hq => ?_, ?_, hF2.trans hf9 (fun i hi h => by have := hVn i h; omega)⟩
              · rw [List.map_append]
                rw [List.length_map] at hR9
                exact hR9
              · have hq' : g9 = q := by simpa [Value.ownBlock] using hq
                subst hq'
                rcases hor9 with h | h
                · exact hVn _ h
                · have := hF2.size; omega
              · rw [take_succ' hx, List.map_append]
                refine Made.snoc (hM2.fr hf9 (fun p hp ad e hh => ?_)) ⟨A1, c1, pl⟩ _ Hpp.out.symm (Rd.fr hrd1 hf9 (fun ad e hh => ?_)) (fun ad e => ?_)
                · obtain ⟨_, cur, hc⟩ := (hM2.rd p hp).2 ad e
                  exact hne _ hh cur hc
                · obtain ⟨cur, hc⟩ := hkind ad e
                  exact hne _ hh cur hc
                · obtain ⟨cur, hc⟩ := hkind ad e
                  exact ⟨by have := hlo ad e; omega, cur, (hf9.block _ (hAlt ad e) (fun hh => hne _ hh cur hc)).trans hc⟩
            case measure => simp [intOf]; omega
      · have ij : (j : Int) < (ls.length : Int) := by omega
        have ij8 : ¬ (j : Int) < 8 := by omega
        obtain ⟨A1, c1, hv⟩ := hV.slice
        rw [List.length_map] at hv
        subst hv
        have HH := Lib.hid (And.intro hV.rd (And.intro hM hF))
        have hje : ls.take j = ls.take 8 := by rw [show j = 8 by omega]
        have Hje := Lib.hid hje
        clear hV hVn hM hF hje
        go_wp2
        go_ret
        obtain ⟨⟨A, c, hv, hrd⟩, hM, hF⟩ := HH.out
        injection hv with e1 e2 e3
        subst e1
        rw [Hje.out, HRES.out] at hM
        exact ⟨_, _, ps, rfl, hM, hrd, hF⟩
    · have ij : ¬ (j : Int) < (ls.length : Int) := by omega
      obtain ⟨A1, c1, hv⟩ := hV.slice
      rw [List.length_map] at hv
      subst hv
      have HH := Lib.hid (And.intro hV.rd (And.intro hM hF))
      have hje : ls.take j = ls.take 8 := by rw [List.take_of_length_le (by omega), List.take_of_length_le (by omega)]
      have Hje := Lib.hid hje
      clear hV hVn hM hF hje
      go_wp2
      go_ret
      obtain ⟨⟨A, c, hv, hrd⟩, hM, hF⟩ := HH.out
      injection hv with e1 e2 e3
      subst e1
      rw [Hje.out, HRES.out] at hM
      exact ⟨_, _, ps, rfl, hM, hrd, hF⟩
theorem right_any {W : World} {A0 : Option Addr} {cp0 : Nat} {ls : List PT} (hL : Rd W A0 (ls.map ptV)) (hP : ∀ p ∈ ls, Rd W p.A (insR p.l)) :
    Calls Try.prog 8 #[.slice A0 ls.length cp0] W fun e W' => ∃ A1 cp1 ps, e = .returned (.slice A1 (ps : List PT).length cp1) ∧ Made W' W.heap.size ps ((ls.take 8).map fun p => (p.l.take 60).map norm) ∧ Rd W' A1 (ps.map ptV) ∧ Fr (fun _ => False) W W' :=
  right_gen hL hP (Lib.hid rfl)
end Go.Proofs.Ytlljfopacdnpbaa

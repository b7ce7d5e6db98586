/- The law SchedCells, walked. Conditions: those of the lemma. -/
import Derived.Test.YtlljfopacdnpbaaAwake
import Derived.Test.YtlljfopacdnpbaaCellS
namespace Go.Proofs.Ytlljfopacdnpbaa
open Go.RowKit
def strs (l : List ByteArray) : List Value := l.map Value.string
theorem Rd.str {W : World} {A : Option Addr} {l : List ByteArray} (h : Rd W A (strs l)) {j : Nat} {s : ByteArray} (hj : l[j]? = some s) : ∃ ad, A = some ad ∧ W.cell? (ad.add j) = some (.string s) :=
  h j (.string s) (by unfold strs; rw [List.getElem?_map, hj]; rfl)
theorem isEmpty_ne {a : ByteArray} (h : a ≠ ⟨#[]⟩) : a.toList.isEmpty = false := by
  have h2 := toList_ne h
  have e : (⟨#[]⟩ : ByteArray).toList = [] := by rw [Lib.toList_data]
  rw [e] at h2
  cases hl : a.toList with
  | nil => rw [hl] at h2; cases h2
  | cons x l => rfl
set_option maxHeartbeats 4000000 in
set_option maxRecDepth 100000 in
theorem cells_any (first : ByteArray) (A : Option Addr) (cp : Nat) (ss : List ByteArray) (w : World) (hR : Rd w A (strs ss)) (hmx : ss.length ≤ 9223372036854775807) :
    Calls Try.prog 5 #[.string first, .slice A ss.length cp] w fun e w' => e = .returned (.bool true) ∧ Fr (fun _ => False) w w' := by
  go_enter Try.func5, Try.ntmps5
  go_wp2_with fail
  refine (newCellS_any first w).mono ?_
  rintro e w1 ⟨b, rfl, hc, hf, hb⟩
  go_wp2_with fail
  go_loopw [6, 7, 8] (fun now sets i W1 => ∃ (x : ByteArray) (c j : Nat), now = .string x ∧ sets = .int .i64 c ∧ i = .int .i64 j ∧ (j = 0 ∨ j < ss.length) ∧ c ≤ j ∧ CelS W1 b x c ∧ Fr (fun _ => False) w W1) (fun _ _ i _ => ss.length - (intOf i).toNat)
  case atStart => exact ⟨first, 0, 0, rfl, rfl, rfl, .inl rfl, Nat.le_refl _, hc, hf⟩
  case round =>
    clear hc hf
    obtain ⟨x, c, j, rfl, rfl, rfl, hj, hcj, hC, hF⟩ := hrel
    by_cases hjn : j + 1 < ss.length
    · have e0 : ss[j]? = some ss[j] := List.getElem?_eq_getElem (by omega)
      have e1 : ss[j + 1]? = some ss[j + 1] := List.getElem?_eq_getElem hjn
      obtain ⟨ad, hA, c0⟩ := (hR.fr hF (fun _ _ => id)).str e0
      obtain ⟨ad', hA', c1⟩ := (hR.fr hF (fun _ _ => id)).str e1
      subst hA
      injection hA' with hA'
      subst hA'
      generalize ss[j] = s0 at c0 e0
      generalize ss[j + 1] = s1 at c1 e1
      have i0 : IntKind.i64.wrap ((j : Int) + 1) = ((j + 1 : Nat) : Int) := by rw [IntWalk.i64_in _ (by omega)]; omega
      have i0' : wrap64 ((j : Int) + 1) = ((j + 1 : Nat) : Int) := by rw [IntWalk.wrap64_in _ (by omega)]; omega
      have i1 : ((j : Int) + 1) < (ss.length : Int) := by omega
      have i2 : ((j + 1 : Nat) : Int) < (ss.length : Int) := by omega
      have i3 : (0 : Int) ≤ ((j + 1 : Nat) : Int) := by omega
      have ij0 : (0 : Int) ≤ (j : Int) := by omega
      have ij1 : (j : Int) < (ss.length : Int) := by omega
      have ij2 : (0 : Int) ≤ (j : Int) + 1 := by omega
      have ha : ad.add (j + 1) = ⟨ad.block, ad.off + (j + 1), none⟩ := by unfold Addr.add; rw [if_neg (by omega)]
      rw [ha] at c1
      have hw : wrap64 ((c : Int) + 1) = ((c + 1 : Nat) : Int) := by rw [IntWalk.wrap64_in _ (by omega)]; omega
      by_cases h0 : s0 = ⟨#[]⟩
      · subst h0
        have hst := storeS_any hC s1
        rw [hw] at hst
        have HS := Lib.hid hst
        clear hst hC
        go_wp2_with fail
        refine HS.out.mono ?_
        rintro e w2 ⟨rfl, hC2, hF2⟩
        have hF3 : Fr (fun _ => False) w w2 := hF.trans hF2 (fun i hi h => by omega)
        have HH := Lib.hid (And.intro hC2 hF3)
        clear c0 c1
        obtain ⟨ad2, hA2, c1⟩ := (hR.fr hF3 (fun _ _ => id)).str e1
        injection hA2 with hA2
        subst hA2
        rw [ha] at c1
        clear hC2 hF3 HS
        go_wp2
        go_roundw
        case rel => exact ⟨s1, c + 1, j + 1, rfl, by go_num, by go_num, .inr (by omega), by omega, HH.out.1, HH.out.2⟩
        case measure => simp [intOf]; omega
      · have hne : ad.block ≠ b := by
          obtain ⟨ad3, h3, c3⟩ := hR.str e1
          injection h3 with h3
          subst h3
          have := World.block_lt_of_cell? _ _ c3
          rw [add_block] at this
          omega
        have h0' := isEmpty_ne h0
        by_cases hx : x = s0
        · subst hx
          have hst := swapS_yes (W := wr.drew) hC s1
          rw [hw] at hst
          have HS := Lib.hid hst
          clear hst
          go_upto_region 11 with fail
          go_region_held3 (fun w' => w'.cell? (ad.add j) = some (.string x) ∧ w'.cell? ⟨ad.block, ad.off + (j + 1), none⟩ = some (.string s1))
            (first | exact ⟨c0, c1⟩ | exact ⟨hf7.cell c0 (by rw [add_block]; exact hne), hf7.cell c1 hne⟩)
            (first | (go_at_call 29; refine HS.out.mono ?_; rintro e w7 ⟨rfl, hc7, hf7⟩))
          have hF3 : Fr (fun _ => False) w w7 := (hF.drew).trans hf7 (fun i hi h => by omega)
          have c0 := hf7.cell c0 (by rw [add_block]; exact hne)
          have c1 := hf7.cell c1 hne
          have HL := Lib.hid (loadS_any hc7)
          have HN := Lib.hid (setsS_any hc7)
          have HH := Lib.hid (And.intro hc7 hF3)
          clear hc7 hf7 hF3 HS hC hF
          go_wp2_with fail
          refine HL.out.mono ?_
          rintro e w' ⟨rfl, rfl⟩
          go_wp2_with fail
          refine HN.out.mono ?_
          rintro e w' ⟨rfl, rfl⟩
          go_wp2
          go_roundw
          case rel => exact ⟨s1, c + 1, j + 1, rfl, by go_num, by go_num, .inr (by omega), by omega, HH.out.1, HH.out.2⟩
          case measure => simp [intOf]; omega
        · have hst := swapS_no (W := wr.drew) hC s0 s1 hx
          have HS := Lib.hid hst
          have hx' : (x.toList == s0.toList) = false := toList_ne hx
          clear hst
          go_upto_region 11 with fail
          go_region_held3 (fun w' => w'.cell? (ad.add j) = some (.string s0) ∧ w'.cell? ⟨ad.block, ad.off + (j + 1), none⟩ = some (.string s1))
            (first | exact ⟨c0, c1⟩)
            (first | (go_at_call 29; refine HS.out.mono ?_; rintro e w7 ⟨rfl, rfl⟩))
          have hC' : CelS wr.drew b x c := hC
          have HL := Lib.hid (loadS_any hC')
          have HN := Lib.hid (setsS_any hC')
          have HH := Lib.hid (And.intro hC' hF.drew)
          clear HS hC hF hC'
          go_wp2_with fail
          refine HL.out.mono ?_
          rintro e w' ⟨rfl, rfl⟩
          go_wp2_with fail
          refine HN.out.mono ?_
          rintro e w' ⟨rfl, rfl⟩
          go_wp2
          go_roundw
          case rel => exact ⟨x, c, j + 1, rfl, rfl, by go_num, .inr (by omega), by omega, HH.out.1, HH.out.2⟩
          case measure => simp [intOf]; omega
    · have HL := Lib.hid (fun W' (hf : Fr (fun _ => False) wr W') => loadS_any (show CelS W' b x c from hf.blk hC id))
      have i0 : IntKind.i64.wrap ((j : Int) + 1) = ((j + 1 : Nat) : Int) := by rw [IntWalk.i64_in _ (by omega)]; omega
      have i0' : wrap64 ((j : Int) + 1) = ((j + 1 : Nat) : Int) := by rw [IntWalk.wrap64_in _ (by omega)]; omega
      have i1 : ¬ ((j + 1 : Nat) : Int) < (ss.length : Int) := by omega
      have i2 : ¬ ((j : Int) + 1) < (ss.length : Int) := by omega
      have HF := Lib.hid hF
      clear hC hF hR
      go_wp2_with fail
      refine (awake_any _).mono ?_
      rintro e w7 ⟨rfl, hf7⟩
      go_wp2_with fail
      refine (HL.out _ hf7).mono ?_
      rintro e w' ⟨rfl, rfl⟩
      go_wp2
      go_ret
      exact ⟨rfl, HF.out.trans hf7 (fun _ _ h => h)⟩
end Go.Proofs.Ytlljfopacdnpbaa

/- Does a cursor tell just this row? Conditions: those of the lemmas. -/
import Derived.Test.YtcpnjlnphjnhnaaLive
namespace Go.Proofs.Ytcpnjlnphjnhnaa
open Go.RowKit
theorem eqEn (x y : En) (w : World) : (Op.equalIn 10000 32 (.agg #[.string x.key, .string x.val, .bool x.gone]) (.agg #[.string y.key, .string y.val, .bool y.gone])).run Try.prog w = .ok (x.key.toList == y.key.toList && (x.val.toList == y.val.toList && x.gone == y.gone)) w := by
  have u9 := Try.underlying9
  have u4 := Try.underlying4
  have hS : Try.prog.underlying 32 = some (.struct (Try.prog.fieldsOf 32)) := by kernel_rfl
  have hp : Try.prog.stoodInHeld 32 = false := by kernel_rfl
  rw [show (10000 : Nat) = 9999 + 1 from rfl, run_equalIn_agg w 9999 32 _ _ hS hp]
  simp only [Program.fieldsOf, Try.underlying32]
  go_simp
  cases h1 : (x.key.toList == y.key.toList) <;> cases h2 : (x.val.toList == y.val.toList) <;> cases h3 : (x.gone == y.gone) <;> simp_all
theorem neqEn (x : En) (w : World) : (binOp .neq 32 (.agg #[.string x.key, .string x.val, .bool x.gone]) (.agg #[.string x.key, .string x.val, .bool x.gone])).run Try.prog w = .ok (.bool false) w := by
  rw [run_neq_struct, eqEn]
  simp
set_option maxHeartbeats 2000000 in
set_option maxRecDepth 100000 in
theorem is_any {d : CD} (hd : SrcOk d) {W : World} {l : List En} {e : Int} {pk : Bool} (h : Cst d W l e pk) {A : Option Addr} {cp : Nat} (hR : RdE W A l) (hA : ∀ ad, A = some ad → ¬ d.foot ad.block) (hfew : l.length ≤ 1000000) :
    Calls Try.prog 12 #[.pointer (some ⟨d.cb, 0, none⟩), .agg #[.slice A l.length cp, .int .i64 e]] W fun en w' => en = .returned (.bool true) ∧ Fr d.foot W w' := by
  have hb := Blk.at_new W [.slice A l.length cp, .int .i64 e] 24 _ _ rfl rfl
  have g := (Fr.refl (fun _ => False) W).alloc (.cells #[.slice A l.length cp, .int .i64 e] 24)
  have hlt := h.foot_lt
  have hc1 := h.new hd g
  have hR1 : RdE (W.alloc (.cells #[.slice A l.length cp, .int .i64 e] 24)) A l := hR.fr g (fun _ _ => id)
  have Hd := Lib.hid hd
  have HA := Lib.hid hA
  go_enter Try.func12, Try.ntmps12
  go_wp2_with fail
  generalize W.alloc (.cells #[.slice A l.length cp, .int .i64 e] 24) = w1 at hb g hc1 hR1 ⊢
  have hrf : ¬ d.foot W.heap.size := fun h => by have := hlt _ h; omega
  have g1 : Fr d.foot W w1 := g.mono (fun _ _ h => h.elim)
  clear g h hR hlt hd hA
  generalize hrx : W.heap.size = rb at hb hrf ⊢
  have Hrx := Lib.hid hrx
  clear hrx
  go_loopw [5] (fun i wr => ∃ (j : Nat) (pk : Bool), i = .int .i64 j ∧ j ≤ l.length ∧ Cst d wr (l.drop j) e pk ∧ RdE wr A l ∧ Blk wr rb [.slice A l.length cp, .int .i64 e] 24 ∧ Fr d.foot W wr) (fun i _ => l.length - (intOf i).toNat)
  case atStart => exact ⟨0, pk, rfl, Nat.zero_le _, by simpa using hc1, hR1, hb, g1⟩
  case round =>
    clear hb g1 hc1 hR1
    obtain ⟨j, pk2, rfl, hj, hC, hR, hB, hF⟩ := hrel
    have b0 := hB.cell 0 rfl
    by_cases hjn : j < l.length
    · have hx : l[j]? = some l[j] := List.getElem?_eq_getElem hjn
      rw [List.drop_eq_getElem_cons hjn] at hC
      generalize l[j] = x at hx hC
      have HN := Lib.hid (cnext_some Hd.out hC)
      have ij : (j : Int) < (l.length : Int) := by omega
      have ij0 : (0 : Int) ≤ (j : Int) := by omega
      clear hC
      go_wp2_with fail
      refine HN.out.mono ?_
      rintro en w4 ⟨rfl, hC4, hf4⟩
      have hB4 := hf4.blk hB hrf
      have hR4 : RdE w4 A l := hR.fr hf4 (fun ad h => HA.out ad h)
      have hF4 := hF.trans hf4 (fun _ _ h => h)
      have hX := Blk.at_new w4 (enV x) 32 _ _ rfl rfl
      have ga := (Fr.refl (fun _ => False) w4).alloc (.cells #[.string x.key, .string x.val, .bool x.gone] 32)
      have hC5 := hC4.new Hd.out ga
      have hB5 := ga.blk hB4 id
      have hR5 : RdE (w4.alloc (.cells #[.string x.key, .string x.val, .bool x.gone] 32)) A l := hR4.fr ga (fun _ _ => id)
      have hF5 := hF4.alloc (.cells #[.string x.key, .string x.val, .bool x.gone] 32)
      clear hB hR hF hB4 hR4 hF4 hf4 hC4 HN b0 ga
      go_upto_region 5 with fail
      simp only [enV, List.toArray] at hX
      generalize w4.alloc (.cells #[.string x.key, .string x.val, .bool x.gone] 32) = w5 at hX hC5 hB5 hR5 hF5 ⊢
      have b0 := hB5.cell 0 rfl
      have x0 := hX.cell 0 rfl
      have x1 := hX.cell 1 rfl
      have x2 := hX.cell 2 rfl
      obtain ⟨ad, hAe, a0, a1, a2⟩ := hR5.cells hx
      subst hAe
      have hq := neqEn x
      go_quiet (fail)
      have hC6 := hC5.new Hd.out ((Fr.refl (fun _ => False) w5).drewN nq)
      have HH := Lib.hid (And.intro hC6 (And.intro hR5 (And.intro hB5 hF5)))
      clear hC5 hC6 hB5 hR5 hF5 hX b0 x0 x1 x2 a0 a1 a2 hq
      go_wp2
      go_roundw
      case rel => exact ⟨j + 1, false, by go_num, by omega, HH.out.1, HH.out.2.1.fr ((Fr.refl (fun _ => False) w5).drewN nq) (fun _ _ => id), HH.out.2.2.1.drewN nq, HH.out.2.2.2.drewN nq⟩
      case measure => simp [intOf]; omega
    · obtain rfl : j = l.length := by omega
      rw [List.drop_length] at hC
      have HA' := HA
      clear hR hj HA HA'
      go_wp2_with fail
      go_loopw [9] (fun i wr => ∃ (j : Nat) (pk : Bool), i = .int .i64 j ∧ j ≤ 2 ∧ Cst d wr [] e pk ∧ Blk wr rb [.slice A l.length cp, .int .i64 e] 24 ∧ Fr d.foot W wr) (fun i _ => 2 - (intOf i).toNat)
      case atStart => exact ⟨0, pk2, rfl, by omega, hC, hB, hF⟩
      case round =>
        clear hC hB hF b0
        obtain ⟨k, pk3, rfl, hk, hC, hB, hF⟩ := hrel
        by_cases hk2 : k < 2
        · have HN := Lib.hid (cnext_end Hd.out hC)
          have ik : (k : Int) < 2 := by omega
          clear hC
          go_wp2_with fail
          refine HN.out.mono ?_
          rintro en w4 ⟨rfl, hC4, hf4⟩
          have hB4 := hf4.blk hB hrf
          have hF4 := hF.trans hf4 (fun _ _ h => h)
          have b1 := hB4.cell 1 rfl
          have ga := (Fr.refl (fun _ => False) w4).alloc (.cells #[.string ⟨#[]⟩, .string ⟨#[]⟩, .bool false] 32)
          have b1' := (ga.blk hB4 id).cell 1 rfl
          have b1l := hB4.lt
          have hq := neqEn En.zero
          simp only [En.zero] at hq
          have HH := Lib.hid (And.intro (hC4.new Hd.out ga) (And.intro (ga.blk hB4 id) (hF4.alloc (.cells #[.string ⟨#[]⟩, .string ⟨#[]⟩, .bool false] 32))))
          clear hB hF hB4 hF4 hf4 hC4 HN ga
          go_wp2
          go_roundw
          case rel => exact ⟨k + 1, true, by go_num, by omega, HH.out.1, HH.out.2.1, HH.out.2.2⟩
          case measure => simp [intOf]; omega
        · obtain rfl : k = 2 := by omega
          have HF := Lib.hid hF
          clear hC hB hF
          go_wp2
          go_ret
          exact ⟨rfl, HF.out⟩
end Go.Proofs.Ytcpnjlnphjnhnaa

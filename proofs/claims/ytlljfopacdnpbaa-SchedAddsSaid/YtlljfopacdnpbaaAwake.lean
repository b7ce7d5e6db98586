/- awake: two tasks add to a cell. No condition. -/
import Derived.Test.YtlljfopacdnpbaaBeginW
namespace Go.Proofs.Ytlljfopacdnpbaa
open Go.RowKit
def addL : List Ins := [⟨1, 0, 0, 1, 0⟩, ⟨2, 0, 1, 0, 1⟩]
def twoL (A : Option Addr) : List PT := [⟨A, 2, addL⟩, ⟨A, 2, addL⟩]
def whoJ (j : Nat) : Nat := j / 2
def insJ (j : Nat) : Ins := if j % 2 = 0 then ⟨1, 0, 0, 1, 0⟩ else ⟨2, 0, 1, 0, 1⟩
def posJ : Nat → Nat → Nat
  | 0 => fun _ => 0
  | j + 1 => upd (posJ j) (whoJ j) (posJ j (whoJ j) + 1)
def stJ : Nat → St
  | 0 => s0 2
  | j + 1 => stepK (insJ j) (whoJ j) (stJ j)
def cntJ : Nat → Int
  | 0 => 0
  | j + 1 => wrap64 (cntJ j + 1)
theorem turn1 (A : Option Addr) : turn (readies (twoL A) (posJ 1) (stJ 1)) ((1 : Nat) : Int) = some (whoJ 1) := by kernel_rfl
theorem turn2 (A : Option Addr) : turn (readies (twoL A) (posJ 2) (stJ 2)) ((2 : Nat) : Int) = some (whoJ 2) := by kernel_rfl
theorem turn3 (A : Option Addr) : turn (readies (twoL A) (posJ 3) (stJ 3)) ((3 : Nat) : Int) = some (whoJ 3) := by kernel_rfl
theorem turnJ (A : Option Addr) : ∀ j, j < 4 → turn (readies (twoL A) (posJ j) (stJ j)) (j : Int) = some (whoJ j) ∧ (twoL A)[whoJ j]? = some ⟨A, 2, addL⟩ ∧ addL[posJ j (whoJ j)]? = some (insJ j)
  | 0, _ => ⟨by rfl, by rfl, by rfl⟩
  | 1, _ => ⟨turn1 A, by rfl, by rfl⟩
  | 2, _ => ⟨turn2 A, by rfl, by rfl⟩
  | 3, _ => ⟨turn3 A, by rfl, by rfl⟩
theorem endJ (A : Option Addr) : readies (twoL A) (posJ 4) (stJ 4) = [] := by kernel_rfl
theorem cntJ4 : cntJ 4 = 4 := by decide +kernel
theorem cellJ4 : (stJ 4).cells 0 = 2 := by decide +kernel
theorem setsJ4 : (stJ 4).sets 0 = 2 := by decide +kernel
set_option maxHeartbeats 4000000 in
set_option maxRecDepth 100000 in
theorem awake_any (w : World) : Calls Try.prog 10 #[] w fun e w' => e = .returned (.bool true) ∧ Fr (fun _ => False) w w' := by
  have f1 : Fr (fun _ => False) w (w.alloc (.cells #[.int .i64 1, .int .i64 0, .int .i64 0, .int .i64 1, .int .i64 0, .int .i64 2, .int .i64 0, .int .i64 1, .int .i64 0, .int .i64 1] 73)) := (Fr.refl _ w).alloc _
  have b1 : Blk (w.alloc (.cells #[.int .i64 1, .int .i64 0, .int .i64 0, .int .i64 1, .int .i64 0, .int .i64 2, .int .i64 0, .int .i64 1, .int .i64 0, .int .i64 1] 73)) w.heap.size (insR addL) 73 := Blk.at_new _ _ _ _ _ rfl rfl
  go_enter Try.func10, Try.ntmps10
  go_upto_region 2 with fail
  generalize w.alloc (.cells #[.int .i64 1, .int .i64 0, .int .i64 0, .int .i64 1, .int .i64 0, .int .i64 2, .int .i64 0, .int .i64 1, .int .i64 0, .int .i64 1] 73) = w1 at f1 b1 ⊢
  generalize hA : w.heap.size = ab at b1 ⊢
  have f2 : Fr (fun _ => False) w1 (w1.alloc (.cells #[.slice (some ⟨ab, 0, none⟩) 2 2, .slice (some ⟨ab, 0, none⟩) 2 2] 67)) := (Fr.refl _ w1).alloc _
  have b2 : Blk (w1.alloc (.cells #[.slice (some ⟨ab, 0, none⟩) 2 2, .slice (some ⟨ab, 0, none⟩) 2 2] 67)) w1.heap.size [.slice (some ⟨ab, 0, none⟩) 2 2, .slice (some ⟨ab, 0, none⟩) 2 2] 67 := Blk.at_new _ _ _ _ _ rfl rfl
  have rdB : ∀ {W : World} {g : Nat} {cs : List Value} {t : TypeId}, Blk W g cs t → Rd W (some ⟨g, 0, none⟩) cs := fun {W g cs t} hb j v hv => ⟨_, rfl, by rw [add_plain]; exact hb.cell j hv⟩
  have b12 := f2.blk b1 id
  have hab := b12.lt
  have hbe := begin_ok (w1.alloc (.cells #[.slice (some ⟨ab, 0, none⟩) 2 2, .slice (some ⟨ab, 0, none⟩) 2 2] 67)) (some ⟨w1.heap.size, 0, none⟩) 2 (twoL (some ⟨ab, 0, none⟩)) (by simp [twoL]) (by simp [twoL]) (rdB b2) (fun p hp => by
    have e : p = ⟨some ⟨ab, 0, none⟩, 2, addL⟩ := by simpa [twoL] using hp
    subst e
    exact ⟨rdB b12, fun ad h => by injection h with h; subst h; exact hab, fun x hx => by
      simp only [addL, List.mem_cons, List.not_mem_nil, or_false] at hx
      rcases hx with rfl | rfl <;> exact ⟨⟨by decide, by decide⟩, ⟨by decide, by decide⟩, by decide, by decide⟩, by simp [addL]⟩)
  have f12 := f1.trans f2 (fun _ _ h => h)
  have HB := Lib.hid hbe
  have HF := Lib.hid f12
  clear f1 b1 f2 b2 b12 hab hbe f12 hA
  go_wp2_with fail
  refine HB.out.mono ?_
  rintro e w2 ⟨E, tb, T, rfl, hR⟩
  clear HB
  go_wp2_with fail
  go_loopw [4, 5, 6] (fun i _ _ W => ∃ (j : Nat) (T : List TV), i = .int .i64 j ∧ j ≤ 4 ∧ Run (w1.alloc (.cells #[.slice (some ⟨ab, 0, none⟩) 2 2, .slice (some ⟨ab, 0, none⟩) 2 2] 67)) W E tb (cntJ j) (twoL (some ⟨ab, 0, none⟩)) (posJ j) (stJ j) T) (fun i _ _ _ => 4 - (intOf i).toNat)
  case atStart => exact ⟨0, T, rfl, Nat.zero_le _, hR⟩
  case round =>
    clear hR
    obtain ⟨j, T, rfl, hj, hR⟩ := hrel
    have o3 := hR.wd.obj.cell 3 rfl
    by_cases hj4 : j < 4
    · have HP := Lib.hid (run_pick hR (j : Int))
      have ij : (j : Int) < 4 := by omega
      obtain ⟨t1, t2, t3⟩ := turnJ (some ⟨ab, 0, none⟩) j hj4
      have HT := Lib.hid (And.intro t1 (And.intro t2 t3))
      clear hR t1 t2 t3
      go_wp2_with fail
      refine HP.out.mono ?_
      rintro e w' (⟨h0, rfl, _⟩ | ⟨i, p, x, T', ht, hp, hx, _, rfl, hR'⟩)
      · exfalso
        have := HT.out.1
        rw [h0] at this
        cases this
      · rw [HT.out.1] at ht
        injection ht with ht
        subst ht
        rw [HT.out.2.1] at hp
        injection hp with hp
        subst hp
        rw [HT.out.2.2] at hx
        injection hx with hx
        subst hx
        have HR' := Lib.hid hR'
        clear hR' HP o3
        go_wp2
        go_roundw
        case rel => exact ⟨j + 1, T', by go_num, by omega, HR'.out⟩
        case measure => simp [intOf]; omega
    · obtain rfl : j = 4 := by omega
      have HP := Lib.hid (run_pick hR 0)
      clear hR hj4 hj
      go_wp2_with fail
      refine HP.out.mono ?_
      rintro e w' (⟨h0, rfl, hR⟩ | ⟨i, p, x, T', ht, hp, hx, _, rfl, hR'⟩)
      · clear HP o3
        have o0 := hR.wd.obj.cell 0 rfl
        have o3 := hR.wd.obj.cell 3 rfl
        have c0 := hR.wd.cAt (k := 0) (by decide)
        have ka : (⟨E.ca, 0, none⟩ : Addr).add 0 = ⟨E.ca, 0, none⟩ := add_plain _ _
        have hL := loadI_any (hR.wd.cel 0 (by decide))
        have hS := setsI_any (hR.wd.cel 0 (by decide))
        have hT := ssteps_any hR.sch
        rw [cellJ4] at hL
        rw [setsJ4] at hS
        rw [cntJ4] at hT
        have HL := Lib.hid hL
        have HS := Lib.hid hS
        have HT := Lib.hid hT
        have hfin := hR.fr
        have HFin := Lib.hid hfin
        clear hL hS hT hR hfin
        go_wp2_with fail
        refine HL.out.mono ?_
        rintro e w' ⟨rfl, rfl⟩
        go_wp2_with fail
        refine HS.out.mono ?_
        rintro e w' ⟨rfl, rfl⟩
        go_wp2_with fail
        refine HT.out.mono ?_
        rintro e w' ⟨rfl, rfl⟩
        go_wp2
        go_ret
        exact ⟨rfl, HF.out.trans HFin.out (fun _ _ h => h)⟩
      · exfalso
        rw [endJ] at ht
        cases ht
end Go.Proofs.Ytlljfopacdnpbaa

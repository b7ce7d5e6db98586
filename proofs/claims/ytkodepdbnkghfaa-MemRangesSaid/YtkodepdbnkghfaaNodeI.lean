/- A tree in memory; its height and count; join. Conditions: those of the lemmas. -/
import Derived.Test.YtkodepdbnkghfaaPure
import Derived.Test.YtkodepdbnkghfaaRowK
import Derived.Deep.RegionHeld3
import Derived.Deep.DrawnRows
namespace Go.Proofs.Ytkodepdbnkghfaa
open Go.RowKit
/-- The tree t lies in W, its root at q. -/
def IsI (W : World) : Option Addr → Tr Int → Prop
  | q, .nil => q = none
  | q, .node l k v r => ∃ b ql qr, q = some ⟨b, 0, none⟩ ∧ Blk W b [.pointer ql, .pointer qr, .string k, Value.int .i64 v, .int .i64 ((Tr.node l k v r).ht : Int), .int .i64 ((Tr.node l k v r).cnt : Int)] 68 ∧ IsI W ql l ∧ IsI W qr r
theorem IsI.fr {S : Nat → Prop} {W W' : World} (hf : Fr S W W') (hS : ∀ b cs, Blk W b cs 68 → ¬ S b) : ∀ {t : Tr Int} {q : Option Addr}, IsI W q t → IsI W' q t
  | .nil, _, h => h
  | .node l k v r, _, ⟨b, ql, qr, hq, hb, h1, h2⟩ => ⟨b, ql, qr, hq, hf.blk hb (hS b _ hb), IsI.fr hf hS h1, IsI.fr hf hS h2⟩
theorem IsI.new {W W' : World} {t : Tr Int} {q : Option Addr} (h : IsI W q t) (hf : Fr (fun _ => False) W W') : IsI W' q t := IsI.fr hf (fun _ _ _ => id) h
theorem heightI_any {W : World} {q : Option Addr} {t : Tr Int} (h : IsI W q t) : Calls Try.prog 31 #[.pointer q] W fun e w' => e = .returned (.int .i64 (t.ht : Int)) ∧ W = w' := by
  cases t with
  | nil =>
    obtain rfl : q = none := h
    go_enter Try.func31, Try.ntmps31
    go_wp2
    go_ret
    exact ⟨rfl, rfl⟩
  | node l k v r =>
    obtain ⟨b, ql, qr, rfl, hb, _, _⟩ := h
    have k4 := hb.cell 4 rfl
    clear hb
    generalize (Tr.node l k v r).ht = n at k4 ⊢
    go_enter Try.func31, Try.ntmps31
    go_wp2
    go_ret
    exact ⟨rfl, rfl⟩
theorem countI_any {W : World} {q : Option Addr} {t : Tr Int} (h : IsI W q t) : Calls Try.prog 28 #[.pointer q] W fun e w' => e = .returned (.int .i64 (t.cnt : Int)) ∧ W = w' := by
  cases t with
  | nil =>
    obtain rfl : q = none := h
    go_enter Try.func28, Try.ntmps28
    go_wp2
    go_ret
    exact ⟨rfl, rfl⟩
  | node l k v r =>
    obtain ⟨b, ql, qr, rfl, hb, _, _⟩ := h
    have k4 := hb.cell 5 rfl
    clear hb
    generalize (Tr.node l k v r).cnt = n at k4 ⊢
    go_enter Try.func28, Try.ntmps28
    go_wp2
    go_ret
    exact ⟨rfl, rfl⟩
set_option maxHeartbeats 1000000 in
theorem joinI_any {W : World} {ql qr : Option Addr} {l r : Tr Int} (hl : IsI W ql l) (hr : IsI W qr r) (k : ByteArray) (v : Int) (hc : l.cnt + r.cnt ≤ 1000000) :
    Calls Try.prog 36 #[.pointer ql, .string k, Value.int .i64 v, .pointer qr] W fun e w' => ∃ b, e = .returned (.pointer (some ⟨b, 0, none⟩)) ∧ IsI w' (some ⟨b, 0, none⟩) (.node l k v r) ∧ Fr (fun _ => False) W w' := by
  have c1 := heightI_any hl
  have c2 := heightI_any hr
  have c3 := countI_any hl
  have c4 := countI_any hr
  have b1 := l.ht_cnt
  have b2 := r.ht_cnt
  have e1 : Hid ((Tr.node l k v r).ht = 1 + max l.ht r.ht) := rfl
  have e2 : Hid ((Tr.node l k v r).cnt = 1 + l.cnt + r.cnt) := rfl
  have hfin : ∀ b W', Fr (fun _ => False) W W' → Blk W' b [.pointer ql, .pointer qr, .string k, Value.int .i64 v, .int .i64 ((Tr.node l k v r).ht : Int), .int .i64 ((Tr.node l k v r).cnt : Int)] 68 → IsI W' (some ⟨b, 0, none⟩) (.node l k v r) :=
    fun b W' hf hb => ⟨b, ql, qr, rfl, hb, hl.new hf, hr.new hf⟩
  have Hfin := Lib.hid hfin
  have C1 := Lib.hid c1
  have C2 := Lib.hid c2
  have C3 := Lib.hid c3
  have C4 := Lib.hid c4
  clear c1 c2 c3 c4 hl hr hfin
  generalize (Tr.node l k v r).ht = H at e1 Hfin
  generalize (Tr.node l k v r).cnt = C at e2 Hfin
  generalize l.ht = h1 at *
  generalize r.ht = h2 at *
  generalize l.cnt = n1 at *
  generalize r.cnt = n2 at *
  go_enter Try.func36, Try.ntmps36
  go_wp2_with fail
  refine C1.out.mono ?_
  rintro e w' ⟨rfl, rfl⟩
  go_wp2_with fail
  refine C2.out.mono ?_
  rintro e w' ⟨rfl, rfl⟩
  by_cases hm : h1 < h2
  · go_wp2_with fail
    refine C3.out.mono ?_
    rintro e w' ⟨rfl, rfl⟩
    go_wp2_with fail
    refine C4.out.mono ?_
    rintro e w' ⟨rfl, rfl⟩
    go_wp2
    go_ret
    refine ⟨_, rfl, Hfin.out _ _ ((Fr.refl _ W).alloc _) (Blk.at_new _ _ _ _ _ rfl ?_), (Fr.refl _ W).alloc _⟩
    rw [e1.out, e2.out, Nat.max_eq_right (by omega)]
    simp only [Int.natCast_add]
    rfl
  · go_wp2_with fail
    refine C3.out.mono ?_
    rintro e w' ⟨rfl, rfl⟩
    go_wp2_with fail
    refine C4.out.mono ?_
    rintro e w' ⟨rfl, rfl⟩
    go_wp2
    go_ret
    refine ⟨_, rfl, Hfin.out _ _ ((Fr.refl _ W).alloc _) (Blk.at_new _ _ _ _ _ rfl ?_), (Fr.refl _ W).alloc _⟩
    rw [e1.out, e2.out, Nat.max_eq_left (by omega)]
    simp only [Int.natCast_add]
    rfl
end Go.Proofs.Ytkodepdbnkghfaa

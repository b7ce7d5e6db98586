/- A tree in memory; its height and count; join. Conditions: those of the lemmas. -/
import Derived.Test.YtkodepdbnkghfaaPure
import Derived.Test.YtkodepdbnkghfaaRowK
import Derived.Deep.RegionHeld3
import Derived.Deep.DrawnRows
namespace Go.Proofs.Ytkodepdbnkghfaa
open Go.RowKit
/-- The tree t lies in W, its root at q. -/
def IsS (W : World) : Option Addr → Tr ByteArray → Prop
  | q, .nil => q = none
  | q, .node l k v r => ∃ b ql qr, q = some ⟨b, 0, none⟩ ∧ Blk W b [.pointer ql, .pointer qr, .string k, Value.string v, .int .i64 ((Tr.node l k v r).ht : Int), .int .i64 ((Tr.node l k v r).cnt : Int)] 63 ∧ IsS W ql l ∧ IsS W qr r
theorem IsS.fr {S : Nat → Prop} {W W' : World} (hf : Fr S W W') (hS : ∀ b cs, Blk W b cs 63 → ¬ S b) : ∀ {t : Tr ByteArray} {q : Option Addr}, IsS W q t → IsS W' q t
  | .nil, _, h => h
  | .node l k v r, _, ⟨b, ql, qr, hq, hb, h1, h2⟩ => ⟨b, ql, qr, hq, hf.blk hb (hS b _ hb), IsS.fr hf hS h1, IsS.fr hf hS h2⟩
theorem IsS.new {W W' : World} {t : Tr ByteArray} {q : Option Addr} (h : IsS W q t) (hf : Fr (fun _ => False) W W') : IsS W' q t := IsS.fr hf (fun _ _ _ => id) h
theorem heightS_any {W : World} {q : Option Addr} {t : Tr ByteArray} (h : IsS W q t) : Calls Try.prog 39 #[.pointer q] W fun e w' => e = .returned (.int .i64 (t.ht : Int)) ∧ W = w' := by
  cases t with
  | nil =>
    obtain rfl : q = none := h
    go_enter Try.func39, Try.ntmps39
    go_wp2
    go_ret
    exact ⟨rfl, rfl⟩
  | node l k v r =>
    obtain ⟨b, ql, qr, rfl, hb, _, _⟩ := h
    have k4 := hb.cell 4 rfl
    clear hb
    generalize (Tr.node l k v r).ht = n at k4 ⊢
    go_enter Try.func39, Try.ntmps39
    go_wp2
    go_ret
    exact ⟨rfl, rfl⟩
theorem countS_any {W : World} {q : Option Addr} {t : Tr ByteArray} (h : IsS W q t) : Calls Try.prog 25 #[.pointer q] W fun e w' => e = .returned (.int .i64 (t.cnt : Int)) ∧ W = w' := by
  cases t with
  | nil =>
    obtain rfl : q = none := h
    go_enter Try.func25, Try.ntmps25
    go_wp2
    go_ret
    exact ⟨rfl, rfl⟩
  | node l k v r =>
    obtain ⟨b, ql, qr, rfl, hb, _, _⟩ := h
    have k4 := hb.cell 5 rfl
    clear hb
    generalize (Tr.node l k v r).cnt = n at k4 ⊢
    go_enter Try.func25, Try.ntmps25
    go_wp2
    go_ret
    exact ⟨rfl, rfl⟩
set_option maxHeartbeats 1000000 in
theorem joinS_any {W : World} {ql qr : Option Addr} {l r : Tr ByteArray} (hl : IsS W ql l) (hr : IsS W qr r) (k : ByteArray) (v : ByteArray) (hc : l.cnt + r.cnt ≤ 1000000) :
    Calls Try.prog 33 #[.pointer ql, .string k, Value.string v, .pointer qr] W fun e w' => ∃ b, e = .returned (.pointer (some ⟨b, 0, none⟩)) ∧ IsS w' (some ⟨b, 0, none⟩) (.node l k v r) ∧ Fr (fun _ => False) W w' := by
  have c1 := heightS_any hl
  have c2 := heightS_any hr
  have c3 := countS_any hl
  have c4 := countS_any hr
  have b1 := l.ht_cnt
  have b2 := r.ht_cnt
  have e1 : Hid ((Tr.node l k v r).ht = 1 + max l.ht r.ht) := rfl
  have e2 : Hid ((Tr.node l k v r).cnt = 1 + l.cnt + r.cnt) := rfl
  have hfin : ∀ b W', Fr (fun _ => False) W W' → Blk W' b [.pointer ql, .pointer qr, .string k, Value.string v, .int .i64 ((Tr.node l k v r).ht : Int), .int .i64 ((Tr.node l k v r).cnt : Int)] 63 → IsS W' (some ⟨b, 0, none⟩) (.node l k v r) :=
    fun b W' hf hb => ⟨b, ql, qr, rfl, hb, hl.new hf, hr.new hf⟩
  have Hfin := Lib.hid hfin
  have C1 := Lib.hid c1
  have C2 := Lib.hid c2
  have C3 := Lib.hid c3
  have C4 := Lib.hid c4
  clear c1 c2 c3 c4 hl hr hfin
  generalize (Tr.node l k v r).ht = H at e1 Hfin
  generalize (Tr.node l k v r).cnt = C at e2 Hfin
  generalize l.ht = h1 at *
  generalize r.ht = h2 at *
  generalize l.cnt = n1 at *
  generalize r.cnt = n2 at *
  go_enter Try.func33, Try.ntmps33
  go_wp2_with fail
  refine C1.out.mono ?_
  rintro e w' ⟨rfl, rfl⟩
  go_wp2_with fail
  refine C2.out.mono ?_
  rintro e w' ⟨rfl, rfl⟩
  by_cases hm : h1 < h2
  · go_wp2_with fail
    refine C3.out.mono ?_
    rintro e w' ⟨rfl, rfl⟩
    go_wp2_with fail
    refine C4.out.mono ?_
    rintro e w' ⟨rfl, rfl⟩
    go_wp2
    go_ret
    refine ⟨_, rfl, Hfin.out _ _ ((Fr.refl _ W).alloc _) (Blk.at_new _ _ _ _ _ rfl ?_), (Fr.refl _ W).alloc _⟩
    rw [e1.out, e2.out, Nat.max_eq_right (by omega)]
    simp only [Int.natCast_add]
    rfl
  · go_wp2_with fail
    refine C3.out.mono ?_
    rintro e w' ⟨rfl, rfl⟩
    go_wp2_with fail
    refine C4.out.mono ?_
    rintro e w' ⟨rfl, rfl⟩
    go_wp2
    go_ret
    refine ⟨_, rfl, Hfin.out _ _ ((Fr.refl _ W).alloc _) (Blk.at_new _ _ _ _ _ rfl ?_), (Fr.refl _ W).alloc _⟩
    rw [e1.out, e2.out, Nat.max_eq_left (by omega)]
    simp only [Int.natCast_add]
    rfl
end Go.Proofs.Ytkodepdbnkghfaa

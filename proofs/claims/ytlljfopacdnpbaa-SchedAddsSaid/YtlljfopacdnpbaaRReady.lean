/- The reference's Ready. Conditions: those of the lemma. -/
import Derived.Test.YtlljfopacdnpbaaRefPre
namespace Go.Proofs.Ytlljfopacdnpbaa
open Go.RowKit
theorem readyA_none {ls : List PT} {pos : Nat → Nat} {s : St} {i : Nat} {p : PT} (hi : ls[i]? = some p) (hx : p.l[pos i]? = none) : readyA ls pos s i = false := by
  unfold readyA
  rw [hi]
  simp only [hx]
theorem readyA_some {ls : List PT} {pos : Nat → Nat} {s : St} {i : Nat} {p : PT} {x : Ins} (hi : ls[i]? = some p) (hx : p.l[pos i]? = some x) : readyA ls pos s i = if 0 < x.mutex then (s.held (x.mutex.toNat - 1)).isNone else true := by
  unfold readyA
  rw [hi]
  simp only [hx]
set_option maxHeartbeats 1000000 in
set_option maxRecDepth 100000 in
theorem rready_any {W : World} {mb : Nat} {R : RE} {ls : List PT} {ts : List RT} {pos : Nat → Nat} {s : St} {st : Int} (h : RefAt W mb R ls ts pos s st) (hh : ∀ k v, s.held k = some v → 0 ≤ v) {i : Nat} {p : PT} (hi : ls[i]? = some p) (hok : ∀ x ∈ p.l, x.ok) :
    Calls Try.prog 36 #[.pointer (some ⟨mb, 0, none⟩), .int .i64 (i : Int)] W fun e w' => e = .returned (.bool (readyA ls pos s i)) ∧ Fr (fun _ => False) W w' := by
  have hil := (List.getElem?_eq_some_iff.1 hi).1
  have hti : ts[i]? = some (ts[i]'(by rw [h.len]; exact hil)) := List.getElem?_eq_getElem _
  generalize ts[i]'(by rw [h.len]; exact hil) = t at hti
  obtain ⟨k1, k2, k3, k4⟩ := h.ok i p t hi hti
  have hrow := tksV_at hi hti
  have c0 := h.tasks.cell i 0 hrow rfl
  have c1 := h.tasks.cell i 1 hrow rfl
  have c2 := h.tasks.cell i 2 hrow rfl
  have c3 := h.tasks.cell i 3 hrow rfl
  rw [Nat.add_zero] at c0
  have ka : (⟨R.tb, 0, none⟩ : Addr).add (i * 4) = ⟨R.tb, i * 4, none⟩ := add_plain _ _
  have o0 := h.obj.cell 0 rfl
  have o3 := h.obj.cell 3 rfl
  have i0 : (0 : Int) ≤ (i : Int) := by omega
  have i1 : (i : Int) < (ls.length : Int) := by omega
  have hX := Blk.at_new W (tkV p t) 69 _ _ rfl rfl
  have g := (Fr.refl (fun _ => False) W).alloc (.cells (tkV p t).toArray 69)
  have hR : Rd W p.A (insR p.l) := h.lists p (List.mem_of_getElem? hi)
  have hheld := fun k (hk : k < 4) => h.held.cell k (four_at (fun k => (s.held k).getD (-1)) hk)
  simp only [tkV, List.toArray] at hX g
  cases hg : t.gone with
  | true =>
    rw [readyA_none hi (k2 hg)]
    rw [hg] at c3 hX g
    have HG := Lib.hid g
    clear h hR hheld hX g hti hrow k1 k2 k3 hg
    go_enter Try.func36, Try.ntmps36
    go_wp2
    go_ret
    exact ⟨rfl, HG.out⟩
  | false =>
    have hat := k3 hg
    rw [hg] at c3 hX g
    by_cases hlt : t.at_ < p.l.length
    · have hx : p.l[pos i]? = some (p.l[pos i]'(by omega)) := List.getElem?_eq_getElem _
      have hxo := hok _ (List.getElem_mem (show pos i < p.l.length by omega))
      generalize p.l[pos i]'(by omega) = x at hx hxo
      rw [readyA_some hi hx]
      rw [← hat] at hx
      obtain ⟨ad, hAe, q0, q1, q2, q3, q4⟩ := ins_cells (hR.fr g (fun _ _ => id)) hx
      rw [hAe] at c0 hX g q3
      have g3 := fun k (hk : k < 4) => g.cell (hheld k hk) id
      have o3' := g.cell o3 id
      have l1 : (t.at_ : Int) < (p.l.length : Int) := by omega
      have l0 : (0 : Int) ≤ (t.at_ : Int) := by omega
      obtain ⟨_, ⟨m0, m1⟩, _⟩ := hxo
      have HG := Lib.hid g
      clear h hR hheld hX hti hrow k1 k2 k3 hg hx q0 q1 q2 q4 hat
      by_cases hm : x.mutex = 0
      · rw [if_neg (by omega)]
        rw [hm] at q3
        clear hm m0 m1 g3 g
        go_enter Try.func36, Try.ntmps36
        go_wp2
        go_ret
        exact ⟨rfl, HG.out⟩
      · rw [if_pos (by omega)]
        obtain ⟨mk, hmk⟩ : ∃ mk : Nat, x.mutex = (mk : Int) + 1 := ⟨x.mutex.toNat - 1, by omega⟩
        have hmk4 : mk < 4 := by omega
        rw [hmk] at q3 ⊢
        rw [show ((mk : Int) + 1).toNat - 1 = mk by omega]
        have g4 := g3 mk hmk4
        have t1 : ((mk : Int) + 1 == 0) = false := by simp; omega
        have t2 : IntKind.i64.wrap ((mk : Int) + 1 - 1) = (mk : Int) := by rw [show (mk : Int) + 1 - 1 = (mk : Int) by omega]; exact IntWalk.i64_in _ (by omega)
        have t3 : (0 : Int) ≤ (mk : Int) := by omega
        have t4 : (mk : Int) < 4 := by omega
        have ka2 : (⟨R.hb, 0, none⟩ : Addr).add mk = ⟨R.hb, mk, none⟩ := add_plain _ _
        have ht5 : decide ((s.held mk).getD (-1) < 0) = (s.held mk).isNone := by
          rcases Option.eq_none_or_eq_some (s.held mk) with he | ⟨v, he⟩
          · rw [he]; rfl
          · have := hh mk v he
            rw [he]
            simp only [Option.getD_some, Option.isNone_some, decide_eq_false_iff_not]
            omega
        generalize (s.held mk).getD (-1) = hv at g4 ht5
        rw [← ht5]
        clear hm m0 m1 g3 g hmk hmk4 ht5
        go_enter Try.func36, Try.ntmps36
        go_wp2
        go_ret
        exact ⟨rfl, HG.out⟩
    · rw [readyA_none hi (List.getElem?_eq_none (by omega))]
      have l1 : (p.l.length : Int) ≤ (t.at_ : Int) := by omega
      have HG := Lib.hid g
      clear h hR hheld hX g hti hrow k1 k2 k3 hg hat
      go_enter Try.func36, Try.ntmps36
      go_wp2
      go_ret
      exact ⟨rfl, HG.out⟩
end Go.Proofs.Ytlljfopacdnpbaa

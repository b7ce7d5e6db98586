/- One step of a walk. Conditions: those of the lemmas. -/
import Derived.Test.YtkodepdbnkghfaaWalkS
import Derived.Deep.QuietTactic
import Derived.BigQuiet
namespace Go.Proofs.Ytkodepdbnkghfaa
open Go.RowKit
theorem Row.initS {w : World} {e : TypeId} {xs : List Value} {x : Value} {g n c : Nat} (h : Row w e (.slice (some ⟨g, 0, none⟩) n c) (xs ++ [x])) : Row w e (.slice (some ⟨g, 0, none⟩) xs.length c) xs := by
  rcases h.2 with ⟨h1, _⟩ | ⟨g', cap, cur, h1, hb, h2, h3, h4, h5, h6⟩
  · cases h1
  · injection h1 with e1 e2 e3
    injection e1 with e1
    injection e1 with e1
    subst e1
    subst e3
    refine ⟨by simp, .inr ⟨g, c, cur, rfl, hb, h2, ?_, h4, h5, ?_⟩⟩
    · rw [List.length_append] at h3; omega
    · rw [Nat.mul_one] at h6 ⊢
      have := congrArg (List.take xs.length) h6
      rwa [List.take_take, List.take_left, Nat.min_eq_left (by simp)] at this
set_option maxHeartbeats 1000000 in
set_option maxRecDepth 100000 in
theorem nextS_end {W : World} {wb : Nat} {v : Value} (h : WkS W wb v []) : Calls Try.prog 23 #[.pointer (some ⟨wb, 0, none⟩)] W fun e w' => e = .returned (.tuple #[.string ⟨#[]⟩, (Value.string ⟨#[]⟩), .bool false]) ∧ W = w' := by
  obtain ⟨ps, ts, hb, hr, hk, hrem⟩ := h
  have h1 := remS_lenS ts.reverse (fun t ht => hk.some t (by simpa using ht))
  rw [hrem, List.length_reverse, ← hk.len] at h1
  obtain ⟨A, c, rfl⟩ := hr.slice
  obtain rfl : ps = [] := List.eq_nil_of_length_eq_zero (by simpa using h1)
  have k0 := hb.cell 0 rfl
  clear hb hr hk hrem h1
  go_enter Try.func23, Try.ntmps23
  go_wp2
  go_ret3
  exact ⟨rfl, rfl⟩
set_option maxHeartbeats 2000000 in
set_option maxRecDepth 100000 in
theorem nextS_some {W : World} {wb : Nat} {v : Value} {k : ByteArray} {x : ByteArray} {rest : List (ByteArray × ByteArray)} (h : WkS W wb v ((k, x) :: rest)) (hlen : rest.length ≤ 900000) :
    Calls Try.prog 23 #[.pointer (some ⟨wb, 0, none⟩)] W fun e w' => ∃ v', e = .returned (.tuple #[.string k, Value.string x, .bool true]) ∧ WkS w' wb v' rest ∧ Fr (fun b => b = wb ∨ v.ownBlock = some b) W w' ∧ (∀ b, v'.ownBlock = some b → v.ownBlock = some b ∨ W.heap.size ≤ b) := by
  obtain ⟨ps, ts, hb, hr, hk, hrem⟩ := h
  obtain ⟨ts', t, rfl⟩ : ∃ ts' t, ts = ts' ++ [t] := by
    rcases List.eq_nil_or_concat ts with rfl | ⟨ts', t, e⟩
    · simp [remS] at hrem
    · exact ⟨ts', t, by simpa using e⟩
  obtain ⟨ps', a, rfl, hk', ht⟩ := hk.last
  cases t with
  | nil => cases ht
  | node l nk nv r =>
    obtain ⟨b, ql, qr, ha, hbn, hl, hrr⟩ := ht
    injection ha with ha
    subst ha
    rw [List.reverse_append, List.reverse_singleton, List.singleton_append, remS] at hrem
    injection hrem with e1 e2
    injection e1 with e1 e3
    subst e1
    subst e3
    obtain ⟨A, c, hv⟩ := hr.slice
    subst hv
    have hlp : (ps' ++ [Value.pointer (some ⟨b, 0, none⟩)]).length = ps'.length + 1 := by simp
    rw [hlp] at hr hb
    obtain ⟨g, rfl, hgc⟩ := hr.head (by omega)
    have hi := Row.initS hr
    have kc : W.cell? ⟨g, ps'.length, none⟩ = some (.pointer (some ⟨b, 0, none⟩)) := hr.cell ps'.length (by simp)
    have ka : (⟨g, 0, none⟩ : Addr).add ps'.length = ⟨g, ps'.length, none⟩ := add_plain g _
    have kb := hb.cell 0 rfl
    have kbf := hb.free 0
    have n1 := hbn.cell 1 rfl
    have hS := ownS hb hr
    have hgb : g ≠ wb := fun e => hr.ne hb (by decide) (by rw [← e]; rfl)
    have hnb : b ≠ wb := hbn.ne hb (by decide)
    have hbl := hb.lt
    have hbnl := hbn.lt
    have hps : ps'.length ≤ 1000000 := by
      have h1 := remS_lenS ts'.reverse (fun t ht => hk'.some t (by simpa using ht))
      have h2 := hk'.len
      have h3 := congrArg List.length e2
      have h5 : (r.toL ++ remS ts'.reverse).length = r.toL.length + (remS ts'.reverse).length := List.length_append
      have h6 : (r.toL ++ remS ts'.reverse).length = rest.length := h3
      rw [List.length_reverse] at h1
      omega
    have f1 : Fr (fun i => i = wb) W (W.setCell ⟨wb, 0, none⟩ (.slice (some ⟨g, 0, none⟩) ps'.length c)) := (Fr.refl _ W).set1 _ _
    have hb1 := hb.set 0 (.slice (some ⟨g, 0, none⟩) ps'.length c)
    have hi1 := hi.other (a := ⟨wb, 0, none⟩) (fun e => hgb (by simpa [Value.ownBlock] using e)) (.slice (some ⟨g, 0, none⟩) ps'.length c)
    have hS1 : ∀ i cs, Blk W i cs 63 → ¬ i = wb := fun i cs h e => hS i cs h (.inl e)
    have hk1 := hk'.fr f1 hS1
    have hrr1 := hrr.fr f1 hS1
    have hbn1 := hbn.other (a := ⟨wb, 0, none⟩) hnb (.slice (some ⟨g, 0, none⟩) ps'.length c)
    have n1' := hbn1.cell 1 rfl
    simp only [List.set_cons_zero] at hb1
    have t1 : IntKind.i64.wrap ((ps'.length : Int) + 1 - 1) = (ps'.length : Int) := by rw [show (ps'.length : Int) + 1 - 1 = (ps'.length : Int) by omega]; exact IntWalk.i64_in _ (by omega)
    obtain ⟨n, hn⟩ : ∃ n, n = r.ht := ⟨_, rfl⟩
    have A := Lib.hid (And.intro hn (And.intro e2 hlen))
    have Hall := Lib.hid (And.intro f1 (And.intro hb1 (And.intro hi1 (And.intro hk1 (And.intro hrr1 hbn1)))))
    clear hn e2 hlen f1 hb1 hi1 hk1 hrr1 hbn1 hr hb hk hk' hi hbn hrr hS hS1 hl
    go_enter Try.func23, Try.ntmps23
    go_wp2_with fail
    obtain ⟨f1, hb1, hi1, hk1, hrr1, hbn1⟩ := Hall.out
    have hz1 : (W.setCell ⟨wb, 0, none⟩ (.slice (some ⟨g, 0, none⟩) ps'.length c)).heap.size = W.heap.size := by simp [World.setCell]
    generalize W.setCell ⟨wb, 0, none⟩ (.slice (some ⟨g, 0, none⟩) ps'.length c) = w1 at f1 hb1 hi1 hk1 hrr1 hbn1 n1' hz1 ⊢
    clear Hall kc kb kbf n1 n1' ka
    go_loopg [6] n (fun G p wr => ∃ q' t' v ps ts, p = .pointer q' ∧ IsS wr q' t' ∧ t'.ht ≤ G ∧ Blk wr wb [v] 61 ∧ Row wr 24 v ps ∧ StkS wr ps ts ∧ t'.toL ++ remS ts.reverse = rest ∧ Blk wr b [.pointer ql, .pointer qr, .string nk, Value.string nv, .int .i64 ((Tr.node l nk nv r).ht : Int), .int .i64 ((Tr.node l nk nv r).cnt : Int)] 63 ∧
      Fr (fun i => i = wb ∨ g = i) W wr ∧ (∀ k, v.ownBlock = some k → g = k ∨ W.heap.size ≤ k))
    case atStart => exact ⟨qr, r, _, ps', ts', rfl, hrr1, Nat.le_of_eq A.out.1.symm, hb1, hi1, hk1, A.out.2.1, hbn1, f1.mono (fun _ _ h => .inl h), fun k hk => .inl (by simpa [Value.ownBlock] using hk)⟩
    case round =>
      clear f1 hb1 hi1 hk1 hrr1 hbn1
      obtain ⟨q', t', v, ps, ts, rfl, hI, hG, hb, hr, hk, hrem, hbn, hf, hn⟩ := hrel
      cases t' with
      | nil =>
        obtain rfl : q' = none := hI
        have B := Lib.hid (And.intro hrem hG)
        have m2 := hbn.cell 2 rfl
        have m3 := hbn.cell 3 rfl
        clear hrem hG
        have Hfin : Hid (∀ q, WkS (wr.drewN q) wb v rest ∧ Fr (fun i => i = wb ∨ g = i) W (wr.drewN q)) := by
          intro q
          exact ⟨WkS.fr ⟨ps, ts, hb, hr, hk, by have := B.out.1; simpa [Tr.toL] using this⟩ ((Fr.refl (fun _ => False) wr).drewN q) id (fun _ _ => id) (fun _ _ _ => id), hf.drewN q⟩
        clear hb hr hk hbn hf
        go_wp2_with fail
        go_quiet (fail)
        go_wp2
        go_ret3
        exact ⟨v, rfl, (Hfin.out _).1, ((Hfin.out _).2).mono (fun i _ h => by rcases h with h | h; exact .inl h; exact .inr (by rw [h]; rfl)), fun k hk => by
          rcases hn k hk with h | h
          · exact .inl (by rw [h]; rfl)
          · exact .inr h⟩
      | node l2 k2 v2 r2 =>
        have hI2 := hI
        obtain ⟨b2, ql2, qr2, rfl, hbn2, hl2, _⟩ := hI2
        have hrem' : l2.toL ++ remS (ts ++ [Tr.node l2 k2 v2 r2]).reverse = rest := by
          rw [← hrem, Tr.toL, List.reverse_append]
          simp [remS]
        have e1 : (Tr.node l2 k2 v2 r2).ht = 1 + max l2.ht r2.ht := rfl
        have hlt : l2.ht < gk := by omega
        have hlen : (ps.length + 1) * 8 ≤ 140737488355328 := by
          have h1 := remS_lenS ts.reverse (fun t ht => hk.some t (by simpa using ht))
          have h2 := hk.len
          have h3 := congrArg List.length hrem
          have h4 := A.out.2.2
          rw [List.length_append] at h3
          rw [List.length_reverse] at h1
          omega
        have B := Lib.hid (And.intro hrem' hlt)
        have Hlen := Lib.hid hlen
        clear hrem' hlt hrem e1 hG hlen
        have kb := hb.cell 0 rfl
        have kbf := hb.free 0
        have hbl := hb.lt
        have hbnl := hbn2.lt
        have k0 := hbn2.cell 0 rfl
        generalize Tr.node l2 k2 v2 r2 = tn at hI B
        go_wp2_with (at_builtin; go_must (refine app1 rfl _ _ 61 24 (.pointer none) 8 rfl Try.underlying61 infoPS rfl (by decide) v ps (.pointer (some ⟨b2, 0, none⟩)) rfl rfl rfl hr Hlen.out ?_); intro g2 c2 w2 hR2 hor2 hf2 _; have hb2 := hf2.blk hb (hr.ne hb (by decide)); have kb' := hb2.cell 0 rfl; have kbf' := hb2.free 0; have hn2 := hf2.blk hbn2 (hr.ne hbn2 (by decide)); have k0' := hn2.cell 0 rfl; have hne2 : b2 ≠ wb := (hn2.ne hb2 (by decide)))
        go_roundg l2.ht
        case measure => exact B.out.2
        case rel =>
          have hS := ownS hb hr
          have f2 : Fr (fun k => k = wb ∨ v.ownBlock = some k) wr (w2.setCell ⟨wb, 0, none⟩ (.slice (some ⟨g2, 0, none⟩) (ps.length + 1) c2)) := (hf2.mono (fun _ _ h => .inr h)).setCell _ _ (fun _ => .inl rfl)
          refine ⟨ql2, l2, .slice (some ⟨g2, 0, none⟩) (ps.length + 1) c2, ps ++ [.pointer (some ⟨b2, 0, none⟩)], ts ++ [tn], rfl, hl2.fr f2 hS, Nat.le_refl _, hb2.set 0 _, hR2.other (hR2.ne hb2 (by decide)) _, (hk.fr f2 hS).snoc (hI.fr f2 hS), B.out.1, f2.blk hbn (hS b _ hbn), hf.trans f2 (fun i hi hh => ?_), fun k hk' => ?_⟩
          · rcases hh with rfl | hh
            · exact .inl rfl
            · rcases hn i hh with h | h
              · exact .inr h
              · omega
          · have hk2 : g2 = k := by simpa [Value.ownBlock] using hk'
            subst hk2
            rcases hor2 with h' | h'
            · exact hn _ h'
            · have := hf.size; omega
end Go.Proofs.Ytkodepdbnkghfaa

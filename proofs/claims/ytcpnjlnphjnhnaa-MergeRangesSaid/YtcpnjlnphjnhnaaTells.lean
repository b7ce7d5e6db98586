/- The law MergeTells, walked. Conditions: those of the lemmas. -/
import Derived.Test.YtcpnjlnphjnhnaaRLive
namespace Go.Proofs.Ytcpnjlnphjnhnaa
open Go.RowKit
theorem RdE.drew {W : World} {A : Option Addr} {l : List En} (h : RdE W A l) : RdE W.drew A l := h
theorem RdE.fr2 {S : Nat → Prop} {W0 W W' : World} {A : Option Addr} {l : List En} (h0 : RdE W0 A l) (h : RdE W A l) (hf : Fr S W W') (hS : ∀ k, k < W0.heap.size → ¬ S k) : RdE W' A l := by
  intro j v hv
  obtain ⟨ad, e, hc⟩ := h j v hv
  obtain ⟨ad0, e0, hc0⟩ := h0 j v hv
  rw [e] at e0
  injection e0 with e0
  subst e0
  exact ⟨ad, e, hf.cell hc (hS _ (World.block_lt_of_cell? _ _ hc0))⟩
theorem told_len : ∀ (l : List En) (last : Option ByteArray) (e : Int), (told last l e).1.length ≤ l.length
  | [], _, _ => Nat.le_refl _
  | x :: l, last, e => by
    rw [told]
    split
    · exact Nat.zero_le _
    · have := told_len l (some x.key) e
      simp only [List.length_cons]
      omega
theorem RdR.one {W : World} {A : Option Addr} {cp : Nat} {l : List En} (e : Int) (hR : RdE W A l) : RdR (W.alloc (.cells #[.slice A l.length cp, .int .i64 e] 24)) (some ⟨W.heap.size, 0, none⟩) [⟨A, cp, l, e⟩] :=
  ⟨fun j v hv => ⟨_, rfl, by rw [add_plain]; exact (Blk.new W [.slice A l.length cp, .int .i64 e] 24).cell j hv⟩, fun r hr => by
    rw [List.mem_singleton] at hr
    subst hr
    exact hR.fr ((Fr.refl (fun _ => False) W).alloc _) (fun _ _ => id)⟩
set_option maxHeartbeats 4000000 in
set_option maxRecDepth 100000 in
theorem tells_any {W : World} {A : Option Addr} {cp : Nat} {l : List En} (e : Int) (hR : RdE W A l) : Calls Try.prog 3 #[.agg #[.slice A l.length cp, .int .i64 e]] W fun en w' => en = .returned (.bool true) ∧ Fr (fun _ => False) W w' := by
  have hb := Blk.at_new W [.slice A l.length cp, .int .i64 e] 24 _ _ rfl rfl
  have g := (Fr.refl (fun _ => False) W).alloc (.cells #[.slice A l.length cp, .int .i64 e] 24)
  go_enter Try.func3, Try.ntmps3
  go_wp2_with fail
  refine (awake_any _).mono ?_
  rintro en w1 ⟨rfl, hf1⟩
  have hb1 := hf1.blk hb id
  have f1 := g.trans hf1 (fun _ _ h => h)
  have hR1 : RdE w1 A l := hR.fr f1 (fun _ _ => id)
  have b0 := hb1.cell 0 rfl
  have b1 := hb1.cell 1 rfl
  have hbl : W.heap.size < w1.heap.size := hb1.lt
  generalize W.heap.size = bb at hb1 b0 b1 hbl ⊢
  have HB := Lib.hid hb1
  have HW := Lib.hid f1
  clear hb g hf1 hb1 f1 hR
  go_wp2_with fail
  refine (few_any (cp := 1) (RdR.one (cp := cp) e hR1)).mono ?_
  rintro en w2 ⟨b, rfl, hf2, hb⟩
  have g2 := ((Fr.refl (fun _ => False) w1).alloc (.cells #[.slice A l.length cp, .int .i64 e] 24)).trans hf2 (fun _ _ h => h)
  have f2 := HW.out.trans g2 (fun _ _ h => h)
  cases b with
  | false =>
    have HF := Lib.hid f2
    clear g2 f2 HW HB hb hf2 hR1 b0 b1
    go_wp2_with fail
    refine (awake_any _).mono ?_
    rintro en w3 ⟨rfl, hf3⟩
    have HF2 := Lib.hid (HF.out.trans hf3 (fun _ _ h => h))
    clear HF hf3
    go_wp2
    go_ret
    exact ⟨rfl, HF2.out⟩
  | true =>
    obtain ⟨_, hb⟩ := hb rfl
    have hfew : l.length ≤ 3001 := hb ⟨A, cp, l, e⟩ (by simp)
    have hb2 := g2.blk HB.out id
    have hR2 : RdE w2 A l := hR1.fr g2 (fun _ _ => id)
    have b0 := hb2.cell 0 rfl
    have b1 := hb2.cell 1 rfl
    have hsz2 := g2.size
    have hsW := f2.size
    have HB2 := Lib.hid (And.intro hb2 f2)
    clear HB HW hf2 g2 f2 hb2 hR1 hb
    go_wp2_with fail
    refine (told_any (e := e) (cp := cp) hR2 (by omega)).mono ?_
    rintro en w3 ⟨A3, c3, rfl, hRt, hAt, _, _, hf3⟩
    have hb3 := hf3.blk HB2.out.1 id
    have hR3 : RdE w3 A l := hR2.fr hf3 (fun _ _ => id)
    have hsz3 := hf3.size
    have f3 := HB2.out.2.trans hf3 (fun _ _ h => h)
    have hlt0 := told_len l none e
    obtain ⟨rt, hrt⟩ : ∃ rt, told none l e = rt := ⟨_, rfl⟩
    rw [hrt] at hRt hlt0 ⊢
    obtain ⟨lt, et⟩ := rt
    simp only at hRt hlt0 ⊢
    have HT := Lib.hid hrt
    clear hrt HB2 hf3 hR2
    have g4 := (Fr.refl (fun _ => False) w3).alloc (.cells #[.slice A3 lt.length c3, .int .i64 et] 24)
    have ht4 := Blk.at_new w3 [.slice A3 lt.length c3, .int .i64 et] 24 _ _ rfl rfl
    have hb4 := g4.blk hb3 id
    have b0 := hb4.cell 0 rfl
    have b1 := hb4.cell 1 rfl
    have hR4 : RdE (w3.alloc (.cells #[.slice A3 lt.length c3, .int .i64 et] 24)) A l := hR3.fr g4 (fun _ _ => id)
    have hRt4 : RdE (w3.alloc (.cells #[.slice A3 lt.length c3, .int .i64 et] 24)) A3 lt := hRt.fr g4 (fun _ _ => id)
    have hAt4 : ∀ ad, A3 = some ad → ∃ cur, (w3.alloc (.cells #[.slice A3 lt.length c3, .int .i64 et] 24)).heap[ad.block]? = some (.cells cur 32 (0, 0)) := fun ad h => by
      obtain ⟨h1, h2, cur, hc⟩ := hAt ad h
      exact ⟨cur, (g4.block _ h2 id).trans hc⟩
    have f4 := f3.trans g4 (fun _ _ h => h)
    have htl : w3.heap.size < (w3.alloc (.cells #[.slice A3 lt.length c3, .int .i64 et] 24)).heap.size := ht4.lt
    clear hb3 hR3 hRt hAt f3 g4
    go_upto_region 4 with fail
    generalize w3.alloc (.cells #[.slice A3 lt.length c3, .int .i64 et] 24) = w4 at ht4 hb4 b0 b1 hR4 hRt4 hAt4 f4 htl ⊢
    generalize w3.heap.size = tb at ht4 htl hsz3 ⊢
    have hrow := RowK.emp w4 32 3
    have hr2 : RdE (w4.alloc (.cells #[] 32)) A l := hR4.fr ((Fr.refl (fun _ => False) w4).alloc _) (fun _ _ => id)
    have b0e := (hb4.alloc (.cells #[] 32)).cell 0 rfl
    have H4 := Lib.hid (And.intro ht4 (And.intro hb4 (And.intro hR4 (And.intro hRt4 (And.intro hAt4 f4)))))
    clear ht4 hb4 hR4 hRt4 hAt4 f4
    go_wp2_with (at_builtin; go_must (refine appNK rfl _ _ 22 32 (.agg #[.string ⟨#[]⟩, .string ⟨#[]⟩, .bool false]) 3 40 rfl Try.underlying22 infoEn rfl (by decide) (by decide) (.slice (some ⟨w4.heap.size, 0, none⟩) 0 0) [] rfl A (ens l) l.length cp (ens_len l).symm rfl hrow (ens_three l) hr2 (ens_one l) (by rw [ens_len]; simp; omega) ?_); intro v1 w5 hR1 hor1 hf5; rw [List.nil_append] at hR1; obtain ⟨A4, c4, rfl, hrd4, hle4, hmx4, _⟩ := hR1.rd; rw [ens_len] at hle4 hR1 hor1 ⊢)
    have hown : ∀ k, (Value.slice A4 l.length c4).ownBlock = some k → w4.heap.size ≤ k ∧ k < w5.heap.size := fun k hk => ⟨by
      rcases hor1 with h | h
      · rw [h] at hk; simp [Value.ownBlock] at hk; omega
      · rw [h] at hk; simp at hk; omega, hR1.lt hk⟩
    have g5 : Fr (fun _ => False) w4 w5 := ((Fr.refl (fun _ => False) w4).alloc (.cells #[] 32)).trans hf5 (fun i hi h => by simp [Value.ownBlock] at h; omega)
    obtain ⟨ht4, hb4, hR4, hRt4, hAt4, f4⟩ := H4.out
    have HR4 := Lib.hid hR4
    have ht5 := g5.blk ht4 id
    have hb5 := g5.blk hb4 id
    have hR5 : RdE w5 A l := hR4.fr g5 (fun _ _ => id)
    have hRt5 : RdE w5 A3 lt := hRt4.fr g5 (fun _ _ => id)
    have hAt5 : ∀ ad, A3 = some ad → ∃ cur, w5.heap[ad.block]? = some (.cells cur 32 (0, 0)) ∧ ad.block < w4.heap.size := fun ad h => by
      obtain ⟨cur, hc⟩ := hAt4 ad h
      have := (Array.getElem?_eq_some_iff.1 hc).1
      exact ⟨cur, (g5.block _ this id).trans hc, this⟩
    have f5 := f4.trans g5 (fun _ _ h => h)
    have hbb4 := hb4.lt
    have htb4 := ht4.lt
    have hHold : ∀ ad, A4 = some ad → (Value.slice A4 l.length c4).ownBlock = some ad.block := fun ad h => hR1.at_own h
    have H5 := Lib.hid (And.intro ht5 (And.intro hb5 (And.intro hR5 (And.intro hRt5 (And.intro hAt5 (And.intro f5 (And.intro hR1 (And.intro hown (And.intro hHold g5.size)))))))))
    clear H4 ht4 hb4 hR4 hRt4 hAt4 f4 ht5 hb5 hR5 hRt5 hAt5 f5 hR1 hor1 hf5 g5 hrow hr2 b0e hown hHold
    go_wp2_with fail
    refine (overL_any (l := l) (cp := c4) hrd4 (by omega)).mono ?_
    rintro en w6 ⟨d5, rfl, hd5, hc5, hf6, hn5⟩
    obtain ⟨ht5, hb5, hR5, hRt5, hAt5, f5, hR1, hown, hHold, hs45⟩ := H5.out
    have ht6 := hf6.blk ht5 id
    have hb6 := hf6.blk hb5 id
    have hR6 : RdE w6 A l := hR5.fr hf6 (fun _ _ => id)
    have hRt6 : RdE w6 A3 lt := hRt5.fr hf6 (fun _ _ => id)
    have hAt6 : ∀ ad, A3 = some ad → ∃ cur, w6.heap[ad.block]? = some (.cells cur 32 (0, 0)) ∧ ad.block < w4.heap.size := fun ad h => by
      obtain ⟨cur, hc, hl⟩ := hAt5 ad h
      exact ⟨cur, (hf6.block _ (by omega) id).trans hc, hl⟩
    have f6 := f5.trans hf6 (fun _ _ h => h)
    have hR16 := hR1.fr hf6 (fun _ _ => id)
    have hd5lo : ∀ k, d5.foot k → w5.heap.size ≤ k := fun k hk => by
      rcases hn5 k hk with h | h
      · exact h
      · exact h.elim
    have hoc : ∀ k, d5.foot k → ¬ (Value.slice A4 l.length c4).ownBlock = some k := fun k h1 h2 => by
      have := hd5lo k h1
      have := (hown k h2).2
      omega
    have H6 := Lib.hid (And.intro ht6 (And.intro hb6 (And.intro hR6 (And.intro hRt6 (And.intro hAt6 (And.intro f6 (And.intro hc5 (And.intro hd5 (And.intro hd5lo (And.intro hoc (And.intro hown hs45)))))))))))
    have hsz6 := hf6.size
    clear H5 ht5 hb5 hR5 hRt5 hAt5 f5 hR1 hown hHold hs45 ht6 hb6 hR6 hRt6 hAt6 f6 hc5 hd5 hd5lo hoc hf6 hn5 hrd4 hle4 hmx4
    go_wp2_with fail
    go_loopw [6] (fun i wr => ∃ (j : Nat) (ys : List (List Value)), i = .int .i64 j ∧ j ≤ l.length ∧ ys.length = l.length ∧ RowK wr 32 3 (.slice A4 l.length c4) ys ∧ Fr (fun q => (Value.slice A4 l.length c4).ownBlock = some q) w6 wr) (fun i _ => l.length - (intOf i).toNat)
    case atStart => exact ⟨0, ens l, rfl, Nat.zero_le _, ens_len l, hR16, Fr.refl _ _⟩
    case round =>
      clear hR16
      obtain ⟨j, ys, rfl, hj, hyl, hV, hF⟩ := hrel
      by_cases hjn : j < l.length
      · have hy : ys[j]? = some (ys[j]'(by omega)) := List.getElem?_eq_getElem _
        have h3 := hV.1 _ (List.mem_of_getElem? hy)
        generalize ys[j]'(by omega) = y at hy h3
        obtain ⟨gr, rfl, _⟩ := hV.head (by omega)
        match y, h3 with
        | [y0, y1, y2], _ =>
        have k0 := hV.cell j 0 hy rfl
        have k1 := hV.cell j 1 hy rfl
        have k2 := hV.cell j 2 hy rfl
        rw [Nat.add_zero] at k0
        have f0 := hV.free (j * 3)
        have f1 := hV.free (j * 3 + 1)
        have f2 := hV.free (j * 3 + 2)
        obtain ⟨cur, hcur⟩ := hV.kind (q := gr) rfl
        have hgl : gr < wr.heap.size := (Array.getElem?_eq_some_iff.1 hcur).1
        have ka : (⟨gr, 0, none⟩ : Addr).add (j * 3) = ⟨gr, j * 3, none⟩ := add_plain _ _
        have ij : (j : Int) < (l.length : Int) := by omega
        have ij0 : (0 : Int) ≤ (j : Int) := by omega
        have s1 := hV.set j 0 hy (by decide) (.string ⟨#[]⟩)
        have s2 := s1.set j 1 (List.getElem?_set_self (by omega)) (by decide) (.string ⟨#[]⟩)
        have s3 := s2.set j 2 (List.getElem?_set_self (by simp; omega)) (by decide) (.bool false)
        rw [Nat.add_zero] at s3
        have hF3 := ((hF.setCell ⟨gr, j * 3, none⟩ (.string ⟨#[]⟩) (fun _ => by simp [Value.ownBlock])).setCell ⟨gr, j * 3 + 1, none⟩ (.string ⟨#[]⟩) (fun _ => by simp [Value.ownBlock])).setCell ⟨gr, j * 3 + 2, none⟩ (.bool false) (fun _ => by simp [Value.ownBlock])
        have HH := Lib.hid (And.intro s3 hF3)
        clear hV hF s1 s2 s3 hF3 hy hcur
        go_wp2
        go_roundw
        case rel => exact ⟨j + 1, _, by go_num, by omega, by simp [hyl], HH.out.1, HH.out.2⟩
        case measure => simp [intOf]; omega
      · obtain rfl : j = l.length := by omega
        obtain ⟨ht6, hb6, hR6, hRt6, hAt6, f6, hc5, hd5, hd5lo, hoc, hown, hs45⟩ := H6.out
        have hSl : ∀ k, k < w4.heap.size → ¬ (Value.slice A4 l.length c4).ownBlock = some k := fun k hk h => by have := (hown k h).1; omega
        have ht7 := hF.blk ht6 (hSl _ htl)
        have hb7 := hF.blk hb6 (hSl _ hbb4)
        have hR7 : RdE wr A l := HR4.out.fr2 hR6 hF hSl
        have hRt7 : RdE wr A3 lt := hRt6.fr hF (fun ad h => by obtain ⟨_, _, h2⟩ := hAt6 ad h; exact hSl _ h2)
        have hc7 := hc5.fr hd5 hF hoc
        have f7 : Fr (fun _ => False) W wr := f6.trans hF (fun i hi h => by have := (hown i h).1; have := f6.size; have := hF.size; exact absurd hi (by have := hsW; omega))
        have hsz7 := hF.size
        have b0 := hb7.cell 0 rfl
        have H7 := Lib.hid (And.intro ht7 (And.intro hb7 (And.intro hR7 (And.intro hRt7 (And.intro hAt6 (And.intro f7 (And.intro hc7 (And.intro hd5 (And.intro hd5lo hs45)))))))))
        clear H6 ht6 hb6 hR6 hRt6 hAt6 f6 hc5 hd5 hd5lo hoc hown hs45 hSl ht7 hb7 hRt7 hc7 f7 hF hV
        go_wp2_with fail
        refine (told_any (e := 0) (cp := cp) hR7 (by omega)).mono ?_
        rintro en w8 ⟨A8, c8, rfl, hRl, hAl, _, _, hf8⟩
        have hll0 := told_len l none 0
        obtain ⟨rl, hrl⟩ : ∃ rl, told none l 0 = rl := ⟨_, rfl⟩
        obtain ⟨ht7, hb7, _, hRt7, hAt6, f7, hc7, hd5, hd5lo, hs45⟩ := H7.out
        rw [hrl] at hRl hll0 hc7 ⊢
        obtain ⟨ll, el⟩ := rl
        simp only at hRl hll0 hc7 ⊢
        have g9 := (Fr.refl (fun _ => False) w8).alloc (.cells #[.slice A8 ll.length c8, .int .i64 el] 24)
        have g79 := hf8.trans g9 (fun _ _ h => h)
        have hl9 := Blk.at_new w8 [.slice A8 ll.length c8, .int .i64 el] 24 _ _ rfl rfl
        have ht9 := g79.blk ht7 id
        have hb9 := g79.blk hb7 id
        have hR9 : RdE (w8.alloc (.cells #[.slice A8 ll.length c8, .int .i64 el] 24)) A l := hR7.fr g79 (fun _ _ => id)
        have hRt9 : RdE (w8.alloc (.cells #[.slice A8 ll.length c8, .int .i64 el] 24)) A3 lt := hRt7.fr g79 (fun _ _ => id)
        have hRl9 : RdE (w8.alloc (.cells #[.slice A8 ll.length c8, .int .i64 el] 24)) A8 ll := hRl.fr g9 (fun _ _ => id)
        have hc9 := hc7.new hd5 g79
        have f9 := f7.trans g79 (fun _ _ h => h)
        have hsz8 := hf8.size
        have hsz9 := g9.size
        have hlt9 := hl9.lt
        have hft7 := hc7.foot_lt
        clear H7 ht7 hb7 hR7 hRt7 f7 hc7 hf8 g9 g79 hRl b0
        go_upto_region 11 with fail
        generalize w8.alloc (.cells #[.slice A8 ll.length c8, .int .i64 el] 24) = w9 at hl9 ht9 hb9 hR9 hRt9 hRl9 hc9 f9 hsz9 hlt9 ⊢
        generalize hlb : w8.heap.size = lb at hl9 hlt9 ⊢
        have hd0 : Fr (fun _ => False) w9 w9.drew := (Fr.refl _ w9).drew
        have hn3 : ∀ k, d5.foot k → w4.heap.size ≤ k ∧ k < wr.heap.size := fun k hk => ⟨by have := hd5lo k hk; omega, hft7 k hk⟩
        have Hcell := Lib.hid (show ∀ w', Fr d5.foot w9.drew w' → w'.cell? ⟨bb, 0, none⟩ = some (.slice A l.length cp) ∧ w'.cell? ⟨bb, 1, none⟩ = some (.int .i64 e) ∧ w'.cell? ⟨tb, 0, none⟩ = some (.slice A3 lt.length c3) ∧ w'.cell? ⟨tb, 1, none⟩ = some (.int .i64 et) ∧ w'.cell? ⟨lb, 0, none⟩ = some (.slice A8 ll.length c8) ∧ w'.cell? ⟨lb, 1, none⟩ = some (.int .i64 el) from fun w' g => by
          have n1 : ¬ d5.foot bb := fun h => by have := (hn3 _ h).1; omega
          have n2 : ¬ d5.foot tb := fun h => by have := (hn3 _ h).1; omega
          have n3 : ¬ d5.foot lb := fun h => by have := (hn3 _ h).2; omega
          have q1 := g.blk hb9.drew n1
          have q2 := g.blk ht9.drew n2
          have q3 := g.blk hl9.drew n3
          exact ⟨q1.cell 0 rfl, q1.cell 1 rfl, q2.cell 0 rfl, q2.cell 1 rfl, q3.cell 0 rfl, q3.cell 1 rfl⟩)
        have HOver := Lib.hid (show ∀ w', Fr d5.foot w9.drew w' → Calls Try.prog 13 #[.agg #[.slice A l.length cp, .int .i64 e]] w' (Made w' (fun _ => False) lt et) from fun w' g => by
          have h1 : RdE w' A l := RdE.fr2 HR4.out hR9.drew g (fun k hk h => by have := (hn3 _ h).1; omega)
          have h2 := over_any (cp := cp) e h1 (by omega)
          rw [HT.out] at h2
          exact h2)
        have HA3 := Lib.hid (show ∀ w', Fr d5.foot w9.drew w' → RdE w' A3 lt from fun w' g => Rd.fr hRt9.drew g (fun ad h hh => by obtain ⟨_, _, h2⟩ := hAt6 ad h; have := (hn3 _ hh).1; omega))
        have HA8 := Lib.hid (show ∀ w', Fr d5.foot w9.drew w' → RdE w' A8 ll from fun w' g => Rd.fr hRl9.drew g (fun ad h hh => by have h2 := (hAl ad h).1; have := (hn3 _ hh).2; omega))
        have HL3 := Lib.hid (show ∀ ad, A3 = some ad → ad.block < w9.drew.heap.size from fun ad h => by obtain ⟨_, _, h2⟩ := hAt6 ad h; have : w9.drew.heap.size = w9.heap.size := rfl; omega)
        have HL8 := Lib.hid (show ∀ ad, A8 = some ad → ¬ d5.foot ad.block from fun ad h hh => by have h2 := (hAl ad h).1; have := (hn3 _ hh).2; omega)
        have HLive := Lib.hid (show ∀ (d : CD) (w' : World), SrcOk d → Cst d w' lt et false → Calls Try.prog 14 #[.pointer (some ⟨d.cb, 0, none⟩)] w' (Made w' d.foot (live lt) et) from fun d w' hd hc => by
          have h2 := live_any hd hc
          have h3 : Ris lt := by have := told_rises l none e; rw [HT.out] at this; exact this
          rw [told_none (l := live lt) (h3.filter _)] at h2
          exact h2)
        have HC9 := Lib.hid (And.intro hd5 hc9)
        have HF9 := Lib.hid (And.intro f9 (And.intro hn3 (show W.heap.size ≤ w4.heap.size by omega)))
        have hllen := live_len lt
        clear hl9 ht9 hb9 hR9 hRt9 hRl9 hc9 hd5 hd5lo f9 hn3 hAl hAt6 hft7 hd0 hlb
        go_region_held3 (fun w' => w'.cell? ⟨bb, 0, none⟩ = some (.slice A l.length cp) ∧ w'.cell? ⟨bb, 1, none⟩ = some (.int .i64 e) ∧ w'.cell? ⟨tb, 0, none⟩ = some (.slice A3 lt.length c3) ∧ w'.cell? ⟨tb, 1, none⟩ = some (.int .i64 et) ∧ w'.cell? ⟨lb, 0, none⟩ = some (.slice A8 ll.length c8) ∧ w'.cell? ⟨lb, 1, none⟩ = some (.int .i64 el))
          (first | exact Hcell.out _ g7 | exact Hcell.out _ g6 | exact Hcell.out _ g5 | exact Hcell.out _ g4 | exact Hcell.out _ g3 | exact Hcell.out _ g2 | exact Hcell.out _ g1 | exact Hcell.out _ (Fr.refl _ _))
          (first
            | (go_at_call 12; refine (is_any hdc (hcc.new hdc hf15) hR15 (fun ad h hh => by have h1 := (hA15 ad h).1; have h2 := hcc.foot_lt _ hh; omega) (by omega)).mono ?_; rintro en w16 ⟨rfl, hf16⟩; have g7 : Fr d5.foot w9.drew w16 := g6.trans hf16 (fun i hi h => by
                rcases hnc i h with h1 | h1
                · have := g4.size; omega
                · rcases hnb i h1 with h2 | h2
                  · have := g3.size; omega
                  · exact h2.elim))
            | (go_at_call 15; refine (rlive_any (cp := c3) (HA3.out _ g5) (by omega)).mono ?_; rintro en w15 ⟨A15, c15, rfl, hR15, hA15, _, _, hf15⟩; have g6 : Fr d5.foot w9.drew w15 := g5.trans hf15 (fun _ _ h => h.elim))
            | (go_at_call 14; refine (HLive.out _ _ hdb hcb).mono ?_; rintro en w14 ⟨dc, rfl, hdc, hcc, hfc, hnc⟩; have g5 : Fr d5.foot w9.drew w14 := g4.trans hfc (fun _ _ h => h.elim))
            | (go_at_call 13; refine (HOver.out _ g3).mono ?_; rintro en w13 ⟨db, rfl, hdb, hcb, hfb, hnb⟩; have g4 : Fr d5.foot w9.drew w13 := g3.trans hfb (fun _ _ h => h.elim))
            | (go_at_call 12; refine (is_any HC9.out.1 (HC9.out.2.new HC9.out.1 u2) (HA8.out _ g2) HL8.out (by omega)).mono ?_; rintro en w12 ⟨rfl, hf12⟩; have g3 : Fr d5.foot w9.drew w12 := g2.trans hf12 (fun _ _ h => h))
            | (go_at_call 12; refine (is_any hda hca (HA3.out _ g1) (fun ad h hh => by
                have h1 := HL3.out ad h
                rcases hna _ hh with h2 | h2
                · omega
                · exact h2) (by omega)).mono ?_; rintro en w11 ⟨rfl, hf11⟩; have u2 : Fr (fun _ => False) w9 w11 := ((Fr.refl (fun _ => False) w9).drew.trans hfa (fun _ _ h => h)).trans hf11 (fun i hi h => by
                rcases hna _ h with h2 | h2
                · have : w9.drew.heap.size = w9.heap.size := rfl; omega
                · exact h2); have g2 : Fr d5.foot w9.drew w11 := g1.trans hf11 (fun i hi h => by
                rcases hna _ h with h2 | h2
                · omega
                · exact h2.elim))
            | (go_at_call 13; refine (HOver.out _ (Fr.refl _ _)).mono ?_; rintro en w10 ⟨da, rfl, hda, hca, hfa, hna⟩; have g1 : Fr d5.foot w9.drew w10 := hfa.mono (fun _ _ h => h.elim)))
        have hfin : Fr (fun _ => False) W w16 := HF9.out.1.drew.trans g7 (fun i hi h => by have := (HF9.out.2.1 i h).1; have := HF9.out.2.2; omega)
        have Hfin := Lib.hid hfin
        clear hfin g1 g2 g3 g4 g5 g6 g7 u2 hfa hfb hfc hf11 hf12 hf15 hf16 hca hcb hcc HF9 HOver HLive HA3 HA8 HL3 HL8 Hcell HC9
        go_wp2
        go_ret
        exact ⟨rfl, Hfin.out⟩
end Go.Proofs.Ytcpnjlnphjnhnaa

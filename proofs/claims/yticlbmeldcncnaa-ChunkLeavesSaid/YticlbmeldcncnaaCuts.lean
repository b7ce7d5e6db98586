/- The law ChunkCuts, walked. Conditions: those of the lemma. -/
import Derived.Test.YticlbmeldcncnaaAwake
import Derived.Test.YticlbmeldcncnaaStr
namespace Go.Proofs.Yticlbmeldcncnaa
open Go.RowKit Ch
theorem RdB.rd {w : World} {A : Option Addr} {n : Nat} {bs : List Int} (h : RdB w A n bs) : Rd w A (u8s bs) := by
  intro j v hj
  have hl : j < bs.length := by have := (List.getElem?_eq_some_iff.1 hj).1; rwa [u8s_len] at this
  obtain ⟨ad, e, hc⟩ := h.2.2 (by rw [← h.1]; omega)
  refine ⟨ad, e, ?_⟩
  rw [hc j (by rw [← h.1]; exact hl)]
  simp only [u8s, List.getElem?_map, List.getElem?_eq_getElem hl, Option.map_some] at hj
  rw [← hj, List.getD_eq_getElem?_getD, List.getElem?_eq_getElem hl]
  rfl
theorem u8s_one (bs : List Int) : ∀ u ∈ u8s bs, u.oneCell' = true := by
  intro u hu
  simp only [u8s, List.mem_map] at hu
  obtain ⟨x, _, rfl⟩ := hu
  rfl
theorem Row.rdB {w : World} {A : Option Addr} {n c : Nat} {bs : List Int} (h : Row w 5 (.slice A n c) (u8s bs)) (hb : ∀ x ∈ bs, 0 ≤ x ∧ x ≤ 255) : RdB w A n bs := by
  have hn := h.len
  rw [u8s_len] at hn
  refine ⟨hn.symm, hb, fun h0 => ?_⟩
  rcases h.form with ⟨h1, h2⟩ | ⟨g, c', cur, h1, hg, _⟩
  · have : bs = [] := by simpa [u8s] using h2
    subst this
    simp at hn
    omega
  · cases h1
    refine ⟨_, rfl, fun j hj => ?_⟩
    rw [add_plain]
    refine h.cell j ?_
    have hl : j < bs.length := by rw [u8s_len] at hj; exact hj
    simp [u8s, List.getElem?_eq_getElem hl, List.getD_eq_getElem?_getD]
theorem bsOf_str (bs : List Int) (h : ∀ x ∈ bs, 0 ≤ x ∧ x ≤ 255) : bsOf (strOfNums bs) = bs := by
  unfold bsOf
  rw [strOfNums_data, List.map_map]
  have : ∀ x ∈ bs, ((fun b : UInt8 => (b.toNat : Int)) ∘ fun n : Int => UInt8.ofNat n.toNat) x = x := by
    intro x hx
    have := h x hx
    simp only [Function.comp, UInt8.toNat_ofNat']
    omega
  conv => rhs; rw [← List.map_id bs]
  exact List.map_congr_left this
set_option maxHeartbeats 1000000 in
set_option maxRecDepth 100000 in
theorem cuts_ok (c0 c1 c2 c3 c4 c5 c6 c7 c8 c9 c10 c11 : Int) (h1 : 1 ≤ c8) (h2 : 1 ≤ c9) (h3 : c9 ≤ 65536) (h4 : c8 ≤ c10) (h5 : c10 ≤ 4096) (A : Option Addr) (n cp : Nat) (bs : List Int) (w : World) (hD : RdB w A n bs) (hn : n ≤ 30000) :
    Calls Try.prog 3 #[.agg #[.int .i64 c0, .int .i64 c1, .int .i64 c2, .int .i64 c3, .int .i64 c4, .int .i64 c5, .int .i64 c6, .int .i64 c7, .int .i64 c8, .int .i64 c9, .int .i64 c10, .int .i64 c11], .slice A n cp] w fun e w' => e = .returned (.bool true) ∧ Fr (fun _ => False) w w' := by
  have hB0 := Blk.new w (i64s [c0, c1, c2, c3, c4, c5, c6, c7, c8, c9, c10, c11]) 23
  have f0 : Fr (fun _ => False) w (w.alloc (.cells (i64s [c0, c1, c2, c3, c4, c5, c6, c7, c8, c9, c10, c11]).toArray 23)) := (Fr.refl _ w).alloc _
  go_enter Try.func3, Try.ntmps3
  go_upto_region 3 with (go_at_call 8; refine (awake_any _).mono ?_; rintro e w1 ⟨rfl, hf1⟩)
  have hB1 := hf1.blk hB0 id
  have f1 := f0.trans hf1 (fun _ _ h => h)
  go_upto_region 4 with (at_builtin; go_must (refine appC rfl _ _ 24 5 (.int .u8 0) 1 rfl Try.underlying24 info5 rfl (by decide) rfl A (u8s bs) n cp (by rw [u8s_len, hD.1]) rfl (hD.rd.fr f1 (fun _ _ => id)) (u8s_one bs) (by rw [u8s_len, hD.1]; omega) ?_); intro A2 ca2 w2 hR2 hf2 hN2)
  have hB2 := hf2.blk hB1 id
  have f2 := f1.trans hf2 (fun _ _ h => h)
  have hD2 := hR2.rdB hD.2.1
  obtain ⟨e0, e1, e2, e3, e4, e5, e6, e7, e8, e9, e10, e11⟩ := agg_of c0 c1 c2 c3 c4 c5 c6 c7 c8 c9 c10 c11 w2 _ hB2
  go_wp2_with fail
  clear e0 e1 e2 e3 e4 e5 e6 e7 e8 e9 e10 e11
  refine (cut_ok c0 c1 c2 c3 c4 c5 c6 c7 c8 c9 c10 c11 h1 h2 h3 h4 h5 A2 n ca2 bs w2 hD2 (by omega)).mono ?_
  rintro e w3 ⟨v3, rfl, hR3, hf3, hN3⟩
  have hB3 := hf3.blk hB2 id
  have f3 := f2.trans hf3 (fun _ _ h => h)
  have hS2 : ∀ W, Fr (fun _ => False) w3 W → (convert 24 9 (.slice A2 n ca2)).run Try.prog W = .ok (.string (strOfNums bs)) W := fun W hW =>
    run_str W 24 5 9 Try.underlying24 Try.underlying5 Try.underlying9 A2 n ca2 bs hD.1 ((hD2.rd.fr hf3 (fun _ _ => id)).fr hW (fun _ _ => id))
  have hS0 : ∀ W, Fr (fun _ => False) w3 W → (convert 24 9 (.slice A n cp)).run Try.prog W = .ok (.string (strOfNums bs)) W := fun W hW =>
    run_str W 24 5 9 Try.underlying24 Try.underlying5 Try.underlying9 A n cp bs hD.1 ((hD.rd.fr f3 (fun _ _ => id)).fr hW (fun _ _ => id))
  have HS2 := Lib.hid hS2
  have HS0 := Lib.hid hS0
  clear hS2 hS0
  go_upto_region 5 with fail
  go_cut [43] (fun t W => t = .bool false ∧ Fr (fun _ => False) w3 W)
  case first =>
    refine wp_region_grow (by kernel_rfl) (by kernel_rfl) ?_
    repeat (refine wpQuiet_step (fun K hK => ?_); go_simp; first | (refine hK _ ?_; clear hK K) | (refine ⟨_, fun _ _ => rfl, hK _ ?_⟩; clear hK K))
    refine wpQuiet_step (fun K hK => ?_)
    go_simp
    refine ⟨.string (strOfNums bs), fun W hW => ?_, hK _ ?_⟩
    · have k := HS2.out W hW
      go_simp
    clear hK K
    repeat (refine wpQuiet_step (fun K hK => ?_); go_simp; first | (refine hK _ ?_; clear hK K) | (refine ⟨_, fun _ _ => rfl, hK _ ?_⟩; clear hK K))
    refine wpQuiet_step (fun K hK => ?_)
    go_simp
    refine ⟨.string (strOfNums bs), fun W hW => ?_, hK _ ?_⟩
    · have k := HS0.out W hW
      go_simp
    clear hK K
    repeat (refine wpQuiet_step (fun K hK => ?_); go_simp; first | (refine hK _ ?_; clear hK K) | (refine ⟨_, fun _ _ => rfl, hK _ ?_⟩; clear hK K))
    refine wpQuiet_step (fun K hK => ?_)
    go_simp
    refine ⟨.agg #[.int .i64 c0, .int .i64 c1, .int .i64 c2, .int .i64 c3, .int .i64 c4, .int .i64 c5, .int .i64 c6, .int .i64 c7, .int .i64 c8, .int .i64 c9, .int .i64 c10, .int .i64 c11], fun W hW => ?_, hK _ ?_⟩
    · obtain ⟨e0, e1, e2, e3, e4, e5, e6, e7, e8, e9, e10, e11⟩ := agg_of c0 c1 c2 c3 c4 c5 c6 c7 c8 c9 c10 c11 W _ (hW.blk hB3 id)
      go_simp
    clear hK K
    refine wpQuiet_step (fun K hK => ?_)
    go_simp
    refine ⟨.int .i64 0, fun W hW => ?_, hK _ ?_⟩
    · refine Calls.mono (check_ok c0 c1 c2 c3 c4 c5 c6 c7 c8 c9 c10 c11 W h1 h2 h3 h4 h5) ?_; rintro e w' ⟨rfl, rfl⟩; exact ⟨rfl, Fr.alloc hW _⟩
    clear hK K
    repeat (refine wpQuiet_step (fun K hK => ?_); go_simp; first | (refine hK _ ?_; clear hK K) | (refine ⟨_, fun _ _ => rfl, hK _ ?_⟩; clear hK K))
    refine wpQuiet_step (fun K hK => ?_)
    go_simp
    refine ⟨.agg #[.int .i64 c0, .int .i64 c1, .int .i64 c2, .int .i64 c3, .int .i64 c4, .int .i64 c5, .int .i64 c6, .int .i64 c7, .int .i64 c8, .int .i64 c9, .int .i64 c10, .int .i64 c11], fun W hW => ?_, hK _ ?_⟩
    · obtain ⟨e0, e1, e2, e3, e4, e5, e6, e7, e8, e9, e10, e11⟩ := agg_of c0 c1 c2 c3 c4 c5 c6 c7 c8 c9 c10 c11 W _ (hW.blk hB3 id)
      go_simp
    clear hK K
    refine wpQuiet_step (fun K hK => ?_)
    go_simp
    refine ⟨.bool true, fun W hW => ?_, hK _ ?_⟩
    · refine Calls.mono (rcheck_ok c0 c1 c2 c3 c4 c5 c6 c7 c8 c9 c10 c11 W h1 h2 h3 h4 h5) ?_; rintro e w' ⟨rfl, rfl⟩; exact ⟨rfl, Fr.alloc hW _⟩
    clear hK K
    repeat (refine wpQuiet_step (fun K hK => ?_); go_simp; first | (refine hK _ ?_; clear hK K) | (refine ⟨_, fun _ _ => rfl, hK _ ?_⟩; clear hK K))
    refine wpQuiet_step (fun K hK => ?_)
    go_simp
    refine ⟨.agg #[.int .i64 c0, .int .i64 c1, .int .i64 c2, .int .i64 c3, .int .i64 c4, .int .i64 c5, .int .i64 c6, .int .i64 c7, .int .i64 c8, .int .i64 c9, .int .i64 c10, .int .i64 c11], fun W hW => ?_, hK _ ?_⟩
    · obtain ⟨e0, e1, e2, e3, e4, e5, e6, e7, e8, e9, e10, e11⟩ := agg_of c0 c1 c2 c3 c4 c5 c6 c7 c8 c9 c10 c11 W _ (hW.blk hB3 id)
      go_simp
    clear hK K
    refine wpQuiet_step (fun K hK => ?_)
    go_simp
    refine ⟨.int .i64 0, fun W hW => ?_, hK _ ?_⟩
    · refine Calls.mono (check_ok c0 c1 c2 c3 c4 c5 c6 c7 c8 c9 c10 c11 W h1 h2 h3 h4 h5) ?_; rintro e w' ⟨rfl, rfl⟩; exact ⟨rfl, Fr.alloc hW _⟩
    clear hK K
    repeat (refine wpQuiet_step (fun K hK => ?_); go_simp; first | (refine hK _ ?_; clear hK K) | (refine ⟨_, fun _ _ => rfl, hK _ ?_⟩; clear hK K))
    refine wpQuiet_nil ?_
    intro W hW
    go_wp2
    go_meet
    case rel => exact ⟨rfl, hW⟩
  case rest =>
    obtain ⟨rfl, hF4⟩ := hcut
    have hB4 := hF4.blk hB3 id
    have f4 := f3.trans hF4 (fun _ _ h => h)
    have hR4 := hR3.fr hF4 (fun _ _ => id)
    have s0 := HS0.out _ hF4
    obtain ⟨A3, k3, rfl, hA3⟩ := hR4.rd
    obtain ⟨e0, e1, e2, e3, e4, e5, e6, e7, e8, e9, e10, e11⟩ := agg_of c0 c1 c2 c3 c4 c5 c6 c7 c8 c9 c10 c11 wc _ hB4
    go_wp2_with fail
    clear e0 e1 e2 e3 e4 e5 e6 e7 e8 e9 e10 e11 s0
    refine (rcut_any c0 c1 c2 c3 c4 c5 c6 c7 c8 c9 c10 c11 (strOfNums bs) wc (by rw [strOfNums_size, hD.1]; omega) h1 h2 h3 h4 h5).mono ?_
    rintro e w5 ⟨v5, rfl, hR5, hf5, hN5⟩
    rw [bsOf_str bs hD.2.1, ← parts_lens] at hR5
    obtain ⟨A5, k5, rfl, hA5⟩ := hR5.rd
    have hlen : ((St.run ⟨c8, c9, c10⟩ ⟨[], [], []⟩ bs).parts.map fun c => (c.length : Int)).length ≤ 1000001 := by
      rw [List.length_map]
      have e1 := St.run_out ⟨c8, c9, c10⟩ bs ⟨[], [], []⟩
      have e2 := ne_len ((St.run ⟨c8, c9, c10⟩ ⟨[], [], []⟩ bs).out ++ [(St.run ⟨c8, c9, c10⟩ ⟨[], [], []⟩ bs).o])
      rw [hD.1] at e1
      simp only [List.length_nil] at e1
      simp only [List.length_append, List.length_singleton] at e2
      unfold Ch.St.parts
      omega
    generalize ((St.run ⟨c8, c9, c10⟩ ⟨[], [], []⟩ bs).parts.map fun c => (c.length : Int)) = L at hR3 hR4 hA3 hR5 hA5 hlen ⊢
    rw [i64s_len]
    go_wp2_with fail
    refine (same_any A3 A5 k3 k5 L L w5 (hA3.fr hf5 (fun _ _ => id)) hA5 (by omega) (by omega)).mono ?_
    rintro e w6 ⟨rfl, q, rfl⟩
    go_wp2
    go_ret
    exact ⟨ret_bool (by simp), ((f4.trans hf5 (fun _ _ h => h))).drewN q⟩
set_option maxHeartbeats 1000000 in
set_option maxRecDepth 100000 in
theorem cuts_no (c0 c1 c2 c3 c4 c5 c6 c7 c8 c9 c10 c11 : Int) (hno : ¬ (1 ≤ c8 ∧ 1 ≤ c9 ∧ c9 ≤ 65536 ∧ c8 ≤ c10 ∧ c10 ≤ 4096)) (A : Option Addr) (n cp : Nat) (bs : List Int) (w : World) (hD : RdB w A n bs) (hn : n ≤ 30000) :
    Calls Try.prog 3 #[.agg #[.int .i64 c0, .int .i64 c1, .int .i64 c2, .int .i64 c3, .int .i64 c4, .int .i64 c5, .int .i64 c6, .int .i64 c7, .int .i64 c8, .int .i64 c9, .int .i64 c10, .int .i64 c11], .slice A n cp] w fun e w' => e = .returned (.bool true) ∧ Fr (fun _ => False) w w' := by
  have Hno := Lib.hid hno
  clear hno
  have hB0 := Blk.new w (i64s [c0, c1, c2, c3, c4, c5, c6, c7, c8, c9, c10, c11]) 23
  have f0 : Fr (fun _ => False) w (w.alloc (.cells (i64s [c0, c1, c2, c3, c4, c5, c6, c7, c8, c9, c10, c11]).toArray 23)) := (Fr.refl _ w).alloc _
  go_enter Try.func3, Try.ntmps3
  go_upto_region 3 with (go_at_call 8; refine (awake_any _).mono ?_; rintro e w1 ⟨rfl, hf1⟩)
  have hB1 := hf1.blk hB0 id
  have f1 := f0.trans hf1 (fun _ _ h => h)
  go_upto_region 4 with (at_builtin; go_must (refine appC rfl _ _ 24 5 (.int .u8 0) 1 rfl Try.underlying24 info5 rfl (by decide) rfl A (u8s bs) n cp (by rw [u8s_len, hD.1]) rfl (hD.rd.fr f1 (fun _ _ => id)) (u8s_one bs) (by rw [u8s_len, hD.1]; omega) ?_); intro A2 ca2 w2 hR2 hf2 hN2)
  have hB2 := hf2.blk hB1 id
  have f2 := f1.trans hf2 (fun _ _ h => h)
  have hD2 := hR2.rdB hD.2.1
  obtain ⟨e0, e1, e2, e3, e4, e5, e6, e7, e8, e9, e10, e11⟩ := agg_of c0 c1 c2 c3 c4 c5 c6 c7 c8 c9 c10 c11 w2 _ hB2
  go_wp2_with fail
  clear e0 e1 e2 e3 e4 e5 e6 e7 e8 e9 e10 e11
  refine (cut_no c0 c1 c2 c3 c4 c5 c6 c7 c8 c9 c10 c11 (.slice A2 n ca2) w2 Hno.out).mono ?_
  rintro e w3 ⟨rfl, hf3⟩
  have hB3 := hf3.blk hB2 id
  have f3 := f2.trans hf3 (fun _ _ h => h)
  have hS2 : ∀ W, Fr (fun _ => False) w3 W → (convert 24 9 (.slice A2 n ca2)).run Try.prog W = .ok (.string (strOfNums bs)) W := fun W hW =>
    run_str W 24 5 9 Try.underlying24 Try.underlying5 Try.underlying9 A2 n ca2 bs hD.1 ((hD2.rd.fr hf3 (fun _ _ => id)).fr hW (fun _ _ => id))
  have hS0 : ∀ W, Fr (fun _ => False) w3 W → (convert 24 9 (.slice A n cp)).run Try.prog W = .ok (.string (strOfNums bs)) W := fun W hW =>
    run_str W 24 5 9 Try.underlying24 Try.underlying5 Try.underlying9 A n cp bs hD.1 ((hD.rd.fr f3 (fun _ _ => id)).fr hW (fun _ _ => id))
  have HS2 := Lib.hid hS2
  have HS0 := Lib.hid hS0
  clear hS2 hS0
  go_upto_region 5 with fail
  go_cut [43] (fun t W => t = .bool false ∧ Fr (fun _ => False) w3 W)
  case first =>
    refine wp_region_grow (by kernel_rfl) (by kernel_rfl) ?_
    repeat (refine wpQuiet_step (fun K hK => ?_); go_simp; first | (refine hK _ ?_; clear hK K) | (refine ⟨_, fun _ _ => rfl, hK _ ?_⟩; clear hK K))
    refine wpQuiet_step (fun K hK => ?_)
    go_simp
    refine ⟨.string (strOfNums bs), fun W hW => ?_, hK _ ?_⟩
    · have k := HS2.out W hW
      go_simp
    clear hK K
    repeat (refine wpQuiet_step (fun K hK => ?_); go_simp; first | (refine hK _ ?_; clear hK K) | (refine ⟨_, fun _ _ => rfl, hK _ ?_⟩; clear hK K))
    refine wpQuiet_step (fun K hK => ?_)
    go_simp
    refine ⟨.string (strOfNums bs), fun W hW => ?_, hK _ ?_⟩
    · have k := HS0.out W hW
      go_simp
    clear hK K
    repeat (refine wpQuiet_step (fun K hK => ?_); go_simp; first | (refine hK _ ?_; clear hK K) | (refine ⟨_, fun _ _ => rfl, hK _ ?_⟩; clear hK K))
    refine wpQuiet_step (fun K hK => ?_)
    go_simp
    refine ⟨.agg #[.int .i64 c0, .int .i64 c1, .int .i64 c2, .int .i64 c3, .int .i64 c4, .int .i64 c5, .int .i64 c6, .int .i64 c7, .int .i64 c8, .int .i64 c9, .int .i64 c10, .int .i64 c11], fun W hW => ?_, hK _ ?_⟩
    · obtain ⟨e0, e1, e2, e3, e4, e5, e6, e7, e8, e9, e10, e11⟩ := agg_of c0 c1 c2 c3 c4 c5 c6 c7 c8 c9 c10 c11 W _ (hW.blk hB3 id)
      go_simp
    clear hK K
    refine wpQuiet_step (fun K hK => ?_)
    go_simp
    refine ⟨.int .i64 1, fun W hW => ?_, hK _ ?_⟩
    · refine Calls.mono (check_no c0 c1 c2 c3 c4 c5 c6 c7 c8 c9 c10 c11 W Hno.out) ?_; rintro e w' ⟨rfl, rfl⟩; exact ⟨rfl, Fr.alloc hW _⟩
    clear hK K
    repeat (refine wpQuiet_step (fun K hK => ?_); go_simp; first | (refine hK _ ?_; clear hK K) | (refine ⟨_, fun _ _ => rfl, hK _ ?_⟩; clear hK K))
    refine wpQuiet_step (fun K hK => ?_)
    go_simp
    refine ⟨.agg #[.int .i64 c0, .int .i64 c1, .int .i64 c2, .int .i64 c3, .int .i64 c4, .int .i64 c5, .int .i64 c6, .int .i64 c7, .int .i64 c8, .int .i64 c9, .int .i64 c10, .int .i64 c11], fun W hW => ?_, hK _ ?_⟩
    · obtain ⟨e0, e1, e2, e3, e4, e5, e6, e7, e8, e9, e10, e11⟩ := agg_of c0 c1 c2 c3 c4 c5 c6 c7 c8 c9 c10 c11 W _ (hW.blk hB3 id)
      go_simp
    clear hK K
    refine wpQuiet_step (fun K hK => ?_)
    go_simp
    refine ⟨.bool false, fun W hW => ?_, hK _ ?_⟩
    · refine Calls.mono (rcheck_no c0 c1 c2 c3 c4 c5 c6 c7 c8 c9 c10 c11 W Hno.out) ?_; rintro e w' ⟨rfl, rfl⟩; exact ⟨rfl, Fr.alloc hW _⟩
    clear hK K
    repeat (refine wpQuiet_step (fun K hK => ?_); go_simp; first | (refine hK _ ?_; clear hK K) | (refine ⟨_, fun _ _ => rfl, hK _ ?_⟩; clear hK K))
    refine wpQuiet_step (fun K hK => ?_)
    go_simp
    refine ⟨.agg #[.int .i64 c0, .int .i64 c1, .int .i64 c2, .int .i64 c3, .int .i64 c4, .int .i64 c5, .int .i64 c6, .int .i64 c7, .int .i64 c8, .int .i64 c9, .int .i64 c10, .int .i64 c11], fun W hW => ?_, hK _ ?_⟩
    · obtain ⟨e0, e1, e2, e3, e4, e5, e6, e7, e8, e9, e10, e11⟩ := agg_of c0 c1 c2 c3 c4 c5 c6 c7 c8 c9 c10 c11 W _ (hW.blk hB3 id)
      go_simp
    clear hK K
    refine wpQuiet_step (fun K hK => ?_)
    go_simp
    refine ⟨.int .i64 1, fun W hW => ?_, hK _ ?_⟩
    · refine Calls.mono (check_no c0 c1 c2 c3 c4 c5 c6 c7 c8 c9 c10 c11 W Hno.out) ?_; rintro e w' ⟨rfl, rfl⟩; exact ⟨rfl, Fr.alloc hW _⟩
    clear hK K
    repeat (refine wpQuiet_step (fun K hK => ?_); go_simp; first | (refine hK _ ?_; clear hK K) | (refine ⟨_, fun _ _ => rfl, hK _ ?_⟩; clear hK K))
    refine wpQuiet_nil ?_
    intro W hW
    go_wp2
    go_meet
    case rel => exact ⟨rfl, hW⟩
  case rest =>
    obtain ⟨rfl, hF4⟩ := hcut
    go_wp2
    go_ret
    exact ⟨rfl, f3.trans hF4 (fun _ _ h => h)⟩
set_option maxHeartbeats 400000 in
set_option maxRecDepth 100000 in
theorem cuts_long (c0 c1 c2 c3 c4 c5 c6 c7 c8 c9 c10 c11 : Int) (A : Option Addr) (n cp : Nat) (w : World) (hn : 30000 < n) :
    Calls Try.prog 3 #[.agg #[.int .i64 c0, .int .i64 c1, .int .i64 c2, .int .i64 c3, .int .i64 c4, .int .i64 c5, .int .i64 c6, .int .i64 c7, .int .i64 c8, .int .i64 c9, .int .i64 c10, .int .i64 c11], .slice A n cp] w fun e w' => e = .returned (.bool true) ∧ Fr (fun _ => False) w w' := by
  have f0 : Fr (fun _ => False) w (w.alloc (.cells (i64s [c0, c1, c2, c3, c4, c5, c6, c7, c8, c9, c10, c11]).toArray 23)) := (Fr.refl _ w).alloc _
  go_enter Try.func3, Try.ntmps3
  go_upto_region 2 with (go_at_call 8; refine (awake_any _).mono ?_; rintro e w1 ⟨rfl, hf1⟩)
  have f1 := f0.trans hf1 (fun _ _ h => h)
  go_wp2_with fail
  refine (awake_any _).mono ?_
  rintro e w2 ⟨rfl, hf2⟩
  go_wp2
  go_ret
  exact ⟨rfl, f1.trans hf2 (fun _ _ h => h)⟩
/-- ChunkCuts answers true, whatever it is given, and leaves what was there. -/
theorem cuts_any (c0 c1 c2 c3 c4 c5 c6 c7 c8 c9 c10 c11 : Int) (A : Option Addr) (n cp : Nat) (bs : List Int) (w : World) (hD : RdB w A n bs) :
    Calls Try.prog 3 #[.agg #[.int .i64 c0, .int .i64 c1, .int .i64 c2, .int .i64 c3, .int .i64 c4, .int .i64 c5, .int .i64 c6, .int .i64 c7, .int .i64 c8, .int .i64 c9, .int .i64 c10, .int .i64 c11], .slice A n cp] w fun e w' => e = .returned (.bool true) ∧ Fr (fun _ => False) w w' := by
  by_cases hn : n ≤ 30000
  · by_cases h : 1 ≤ c8 ∧ 1 ≤ c9 ∧ c9 ≤ 65536 ∧ c8 ≤ c10 ∧ c10 ≤ 4096
    · obtain ⟨h1, h2, h3, h4, h5⟩ := h
      exact cuts_ok c0 c1 c2 c3 c4 c5 c6 c7 c8 c9 c10 c11 h1 h2 h3 h4 h5 A n cp bs w hD hn
    · exact cuts_no c0 c1 c2 c3 c4 c5 c6 c7 c8 c9 c10 c11 h A n cp bs w hD hn
  · exact cuts_long c0 c1 c2 c3 c4 c5 c6 c7 c8 c9 c10 c11 A n cp w (by omega)
end Go.Proofs.Yticlbmeldcncnaa

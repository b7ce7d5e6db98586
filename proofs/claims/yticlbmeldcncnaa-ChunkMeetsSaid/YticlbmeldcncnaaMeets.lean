/- The law ChunkMeets, walked. Conditions: those of the lemmas. -/
import Derived.Test.YticlbmeldcncnaaMeetsPure
import Derived.Deep.RegionHeld3
namespace Go.Proofs.Yticlbmeldcncnaa
open Go.RowKit Ch
section
variable {P : Program} {ops : Array Oper} {o : Oper} {a : Act} {K : Act → World → Prop} {Q : Exit → Act → World → Prop} {E : Prop}
theorem step_appN {W : World} (hgd : o.guard = none) (s x : Operand) (t e : TypeId) (z : Value) (bytes : Nat)
    (ho : o.op = .call { callee := .builtin .append, args := #[s, x], argTypes := #[t, t] })
    (ht : P.underlying t = some (.slice e)) (hinfo : (P.info? e).map (fun i => (i.zero, i.size, i.bytes)) = some (some z, 1, bytes)) (hz : z.cells.size = 1) (hb0 : 0 < bytes)
    (v : Value) (xs : List Value) (hs : a.eval s = v) (A : Option Addr) (ys : List Value) (n c : Nat) (hn : n = ys.length) (hx : a.eval x = .slice A n c)
    (HO : Row W e v xs) (hA : Rd W A ys) (h1 : ∀ u ∈ ys, u.oneCell' = true) (hl : (xs.length + ys.length) * bytes ≤ 140737488355328)
    (h : ∀ v1 w1, Row w1 e v1 (xs ++ ys) → (v1.ownBlock = v.ownBlock ∨ v1.ownBlock = some W.heap.size) → Fr (fun k => v.ownBlock = some k) W w1 → K (a.put o.dst v1) w1) :
    if Region.wanted o (yielded ops a.tmps) = true then Oper.wp P o a W K Q else E := by
  have hw : Region.wanted o (yielded ops a.tmps) = true := by simp [Region.wanted, hgd]
  rw [if_pos hw]
  subst hn
  obtain ⟨v1, w1, hr, hrow, hf, hat⟩ := run_appN W t o.type e z bytes ht hinfo hz hb0 v xs HO A ys c hA h1 hl
  unfold Oper.wp execOp
  simp only [ho, resolve, invoke, builtin, Sem.run_bind, Sem.run_pure, Result.andThen_ok, List.map_toArray, List.map_cons, List.map_nil, hs, hx, hr]
  exact h v1 w1 hrow hat hf
theorem step_appC {W : World} (hgd : o.guard = none) (s x : Operand) (t e : TypeId) (z : Value) (bytes : Nat)
    (ho : o.op = .call { callee := .builtin .append, args := #[s, x], argTypes := #[t, t] })
    (ht : P.underlying t = some (.slice e)) (hinfo : (P.info? e).map (fun i => (i.zero, i.size, i.bytes)) = some (some z, 1, bytes)) (hz : z.cells.size = 1) (hb0 : 0 < bytes)
    (hs : a.eval s = .slice (some ⟨W.heap.size, 0, none⟩) 0 0) (A : Option Addr) (ys : List Value) (n c : Nat) (hn : n = ys.length) (hx : a.eval x = .slice A n c)
    (hA : Rd W A ys) (h1 : ∀ u ∈ ys, u.oneCell' = true) (hl : ys.length * bytes ≤ 140737488355328)
    (h : ∀ v1 w1, Row w1 e v1 ys → Fr (fun _ => False) W w1 → (∀ g, v1.ownBlock = some g → W.heap.size ≤ g) → K (a.put o.dst v1) w1) :
    if Region.wanted o (yielded ops a.tmps) = true then Oper.wp P o a (W.alloc (.cells #[] e)) K Q else E := by
  refine step_appN hgd s x t e z bytes ho ht hinfo hz hb0 _ [] hs A ys n c hn hx (Row.lit W e [] (by decide)) (hA.fr ((Fr.refl (fun _ => False) W).alloc _) (fun _ _ => id)) h1 (by simpa using hl) ?_
  intro v1 w1 hrow hat hf
  simp only [List.nil_append] at hrow
  have hfr : Fr (fun _ => False) W w1 := ((Fr.refl (fun _ => False) W).alloc _).trans hf (fun i hi h => by
    have h' : W.heap.size = i := by simpa [Value.ownBlock] using h
    omega)
  refine h v1 w1 hrow hfr (fun g hg => ?_)
  rcases hat with hat | hat
  · rw [hat] at hg
    have h' : W.heap.size = g := by simpa [Value.ownBlock] using hg
    omega
  · rw [hat] at hg
    have h' : (W.alloc (.cells #[] e)).heap.size = g := by simpa using hg
    simp at h'
    omega
end
theorem u8s_app (xs ys : List Int) : u8s (xs ++ ys) = u8s xs ++ u8s ys := by simp [u8s]
theorem cat_rdB {w : World} {A : Option Addr} {n k : Nat} {xs ys : List Int} (h : Row w 5 (.slice A n k) (u8s xs ++ u8s ys)) (hx : ∀ x ∈ xs, 0 ≤ x ∧ x ≤ 255) (hy : ∀ x ∈ ys, 0 ≤ x ∧ x ≤ 255) : RdB w A n (xs ++ ys) := by
  rw [← u8s_app] at h
  refine h.rdB fun x hx' => ?_
  rcases List.mem_append.1 hx' with h' | h'
  · exact hx x h'
  · exact hy x h'
theorem lens_ok (c : Cf) (hc : c.ok) (bs : List Int) (h : bs.length ≤ 30000) : (lensOf (St.run c ⟨[], [], []⟩ bs).parts).length ≤ 1000000 ∧ ∀ x ∈ lensOf (St.run c ⟨[], [], []⟩ bs).parts, 0 ≤ x ∧ x ≤ 1000000 := by
  constructor
  · rw [lensOf, List.length_map]
    have e1 := St.run_out c bs ⟨[], [], []⟩
    have e2 := ne_len ((St.run c ⟨[], [], []⟩ bs).out ++ [(St.run c ⟨[], [], []⟩ bs).o])
    simp only [List.length_nil] at e1
    simp only [List.length_append, List.length_singleton] at e2
    unfold Ch.St.parts
    omega
  · intro x hx
    obtain ⟨y, hy, rfl⟩ := List.mem_map.1 hx
    have h1 := ((parts_bounds c hc bs).1 y hy).2
    have h2 := hc.2.2.2.2
    omega
/-- The conf's cells. -/
theorem conf_keep {S : Nat → Prop} {W W' : World} {b : Nat} {cs : List Int} (hB : Blk W b (i64s cs) 23) (hf : Fr S W W') (hS : ¬ S b) : Blk W' b (i64s cs) 23 := hf.blk hB hS
set_option maxHeartbeats 2000000 in
set_option maxRecDepth 100000 in
theorem meets_ok (c0 c1 c2 c3 c4 c5 c6 c7 c8 c9 c10 c11 : Int) (A1 : Option Addr) (n1 p1 : Nat) (bs1 : List Int) (A2 : Option Addr) (n2 p2 : Nat) (bs2 : List Int) (A3 : Option Addr) (n3 p3 : Nat) (bs3 : List Int) (w : World)
    (hD1 : RdB w A1 n1 bs1) (hD2 : RdB w A2 n2 bs2) (hD3 : RdB w A3 n3 bs3) (hn : n1 + n2 + n3 ≤ 30000) :
    Calls Try.prog 6 #[.agg #[.int .i64 c0, .int .i64 c1, .int .i64 c2, .int .i64 c3, .int .i64 c4, .int .i64 c5, .int .i64 c6, .int .i64 c7, .int .i64 c8, .int .i64 c9, .int .i64 c10, .int .i64 c11], .slice A1 n1 p1, .slice A2 n2 p2, .slice A3 n3 p3] w fun e w' => e = .returned (.bool true) ∧ Fr (fun _ => False) w w' := by
  have hB0 := Blk.new w (i64s [c0, c1, c2, c3, c4, c5, c6, c7, c8, c9, c10, c11]) 23
  have f0 : Fr (fun _ => False) w (w.alloc (.cells (i64s [c0, c1, c2, c3, c4, c5, c6, c7, c8, c9, c10, c11]).toArray 23)) := (Fr.refl _ w).alloc _
  have q1 : IntKind.i64.wrap ((n1 : Int) + (n2 : Int)) = (n1 : Int) + (n2 : Int) := IntWalk.i64_in _ (by omega)
  have q2 : IntKind.i64.wrap ((n1 : Int) + (n2 : Int) + (n3 : Int)) = (n1 : Int) + (n2 : Int) + (n3 : Int) := IntWalk.i64_in _ (by omega)
  have q3 : (n1 : Int) + (n2 : Int) + (n3 : Int) ≤ 30000 := by omega
  go_enter Try.func6, Try.ntmps6
  go_upto_region 3 with (go_at_call 8; refine (awake_any _).mono ?_; rintro e w1 ⟨rfl, hf1⟩)
  have hB1 := hf1.blk hB0 id
  have f1 := f0.trans hf1 (fun _ _ h => h)
  obtain ⟨e0, e1, e2, e3, e4, e5, e6, e7, e8, e9, e10, e11⟩ := agg_of c0 c1 c2 c3 c4 c5 c6 c7 c8 c9 c10 c11 w1 _ hB1
  go_wp2_with fail
  refine (right_any c0 c1 c2 c3 c4 c5 c6 c7 c8 c9 c10 c11 _).mono ?_
  rintro e w2 ⟨d8, d9, d10, rfl, b1, b2, b3, b4, b5, b6, hf2⟩
  clear e0 e1 e2 e3 e4 e5 e6 e7 e8 e9 e10 e11
  have hB2 := hf2.blk hB1 id
  have f2 := f1.trans hf2 (fun _ _ h => h)
  go_upto_region 4 with (refine storeAgg rfl 23 (.tmp 4) (.tmp 32) rfl w.heap.size (i64s [c0, c1, c2, c3, c4, c5, c6, c7, d8, d9, d10, c11]) (i64s [c0, c1, c2, c3, c4, c5, c6, c7, c8, c9, c10, c11]) rfl rfl 23 hB2 (by kernel_rfl) rfl rfl ?_; intro w3 hB3 hf3)
  have f3 := f2.trans hf3 (fun i hi h => by omega)
  have hl3 : w.heap.size < w3.heap.size := hB3.lt
  clear hB0 hB1 hB2 f0 f1 f2 hf1 hf2 hf3 q1 q2 q3
  have hR1 := (hD1.fr f3 (fun _ _ => id)).rd
  have hR2 := (hD2.fr f3 (fun _ _ => id)).rd
  have hR3 := (hD3.fr f3 (fun _ _ => id)).rd
  have hL1 := hD1.1
  have hL2 := hD2.1
  have hL3 := hD3.1
  go_simp
  generalize w.heap.size = B at hB3 hl3 ⊢
  go_cut [9, 10] (fun l e W => e = .int .i64 0 ∧ Row W 3 l (i64s (lensOf (St.run ⟨d8, d9, d10⟩ ⟨[], [], []⟩ (bs1 ++ bs3)).parts)) ∧ Fr (fun _ => False) w3 W)
  case first =>
    clear hR2
    have hB4 : Blk w3.drew B (i64s [c0, c1, c2, c3, c4, c5, c6, c7, d8, d9, d10, c11]) 23 := hB3
    have hR1 : Rd w3.drew A1 (u8s bs1) := hR1
    have hR3 : Rd w3.drew A3 (u8s bs3) := hR3
    have hl4 : B < w3.drew.heap.size := hl3
    go_region_held3 (fun W => W.cell? ⟨B, 0, none⟩ = some (.int .i64 c0) ∧ W.cell? ⟨B, 1, none⟩ = some (.int .i64 c1) ∧ W.cell? ⟨B, 2, none⟩ = some (.int .i64 c2) ∧ W.cell? ⟨B, 3, none⟩ = some (.int .i64 c3) ∧ W.cell? ⟨B, 4, none⟩ = some (.int .i64 c4) ∧ W.cell? ⟨B, 5, none⟩ = some (.int .i64 c5) ∧ W.cell? ⟨B, 6, none⟩ = some (.int .i64 c6) ∧ W.cell? ⟨B, 7, none⟩ = some (.int .i64 c7) ∧ W.cell? ⟨B, 8, none⟩ = some (.int .i64 d8) ∧ W.cell? ⟨B, 9, none⟩ = some (.int .i64 d9) ∧ W.cell? ⟨B, 10, none⟩ = some (.int .i64 d10) ∧ W.cell? ⟨B, 11, none⟩ = some (.int .i64 c11))
      (first | exact agg_of c0 c1 c2 c3 c4 c5 c6 c7 d8 d9 d10 c11 _ _ hB4 | exact agg_of c0 c1 c2 c3 c4 c5 c6 c7 d8 d9 d10 c11 _ _ (hB4.alloc _) | exact agg_of c0 c1 c2 c3 c4 c5 c6 c7 d8 d9 d10 c11 _ _ (hf9.blk hB4 id) | exact agg_of c0 c1 c2 c3 c4 c5 c6 c7 d8 d9 d10 c11 _ _ hB8 | exact agg_of c0 c1 c2 c3 c4 c5 c6 c7 d8 d9 d10 c11 _ _ hB7)
      (first
        | (refine step_appC (W := w3.drew) rfl _ _ 24 5 (.int .u8 0) 1 rfl Try.underlying24 info5 rfl (by decide) rfl A1 (u8s bs1) n1 p1 ?_ rfl hR1 (u8s_one bs1) ?_ ?_; (rw [u8s_len, hL1]); (rw [u8s_len, hL1]; omega); intro v9 w9 hR9 hf9 hN9)
        | (refine step_appN rfl _ _ 24 5 (.int .u8 0) 1 rfl Try.underlying24 info5 rfl (by decide) v9 (u8s bs1) rfl A3 (u8s bs3) n3 p3 ?_ rfl hR9 ?_ (u8s_one bs3) ?_ ?_; (rw [u8s_len, hL3]); exact hR3.fr hf9 (fun _ _ => id); (rw [u8s_len, hL1, u8s_len, hL3]; omega); intro v8 w8 hR8 hat8 hf8; have hB8 := hf8.blk (hf9.blk hB4 id) (fun h => by have := hN9 _ h; omega))
        | (obtain ⟨A8, k8, he8, _⟩ := hR8.rd; subst he8; rw [List.length_append] at hR8; go_simp; go_at_call 9; refine (cut_ok c0 c1 c2 c3 c4 c5 c6 c7 d8 d9 d10 c11 b1 b3 ?_ b5 ?_ A8 _ k8 (bs1 ++ bs3) w8 (cat_rdB hR8 hD1.2.1 hD3.2.1) ?_).mono ?_; omega; omega; (rw [u8s_len, hL1, u8s_len, hL3]; omega); rintro e w7 ⟨v7, rfl, hR7, hf7, hN7⟩; have hB7 := hf7.blk hB8 id))
    go_wp2
    go_meet
    case rel => exact ⟨rfl, hR7, ((((Fr.refl _ w3).drew.trans hf9 (fun _ _ h => h)).trans hf8 (fun i hi h => by have := hN9 i h; simp only [World.drew] at this; omega)).trans hf7 (fun _ _ h => h))⟩
  case rest =>
    obtain ⟨rfl, hX, hf4⟩ := hcut
    have hB4 := hf4.blk hB3 id
    have hl4 := hB4.lt
    have hR2 := hR2.fr hf4 (fun _ _ => id)
    have hR3 := hR3.fr hf4 (fun _ _ => id)
    have f4 := f3.trans hf4 (fun _ _ h => h)
    clear hB3 hl3 hR1 hf4 f3
    go_upto_region 5 with fail
    go_simp
    go_cut [11, 12] (fun l e W => e = .int .i64 0 ∧ Row W 3 l (i64s (lensOf (St.run ⟨d8, d9, d10⟩ ⟨[], [], []⟩ (bs2 ++ bs3)).parts)) ∧ Fr (fun _ => False) wc W)
    case first =>
      have hB5 : Blk wc.drew B (i64s [c0, c1, c2, c3, c4, c5, c6, c7, d8, d9, d10, c11]) 23 := hB4
      have hR2 : Rd wc.drew A2 (u8s bs2) := hR2
      have hR3 : Rd wc.drew A3 (u8s bs3) := hR3
      have hl4 : B < wc.drew.heap.size := hl4
      go_region_held3 (fun W => W.cell? ⟨B, 0, none⟩ = some (.int .i64 c0) ∧ W.cell? ⟨B, 1, none⟩ = some (.int .i64 c1) ∧ W.cell? ⟨B, 2, none⟩ = some (.int .i64 c2) ∧ W.cell? ⟨B, 3, none⟩ = some (.int .i64 c3) ∧ W.cell? ⟨B, 4, none⟩ = some (.int .i64 c4) ∧ W.cell? ⟨B, 5, none⟩ = some (.int .i64 c5) ∧ W.cell? ⟨B, 6, none⟩ = some (.int .i64 c6) ∧ W.cell? ⟨B, 7, none⟩ = some (.int .i64 c7) ∧ W.cell? ⟨B, 8, none⟩ = some (.int .i64 d8) ∧ W.cell? ⟨B, 9, none⟩ = some (.int .i64 d9) ∧ W.cell? ⟨B, 10, none⟩ = some (.int .i64 d10) ∧ W.cell? ⟨B, 11, none⟩ = some (.int .i64 c11))
        (first | exact agg_of c0 c1 c2 c3 c4 c5 c6 c7 d8 d9 d10 c11 _ _ hB5 | exact agg_of c0 c1 c2 c3 c4 c5 c6 c7 d8 d9 d10 c11 _ _ (hB5.alloc _) | exact agg_of c0 c1 c2 c3 c4 c5 c6 c7 d8 d9 d10 c11 _ _ (hf9.blk hB5 id) | exact agg_of c0 c1 c2 c3 c4 c5 c6 c7 d8 d9 d10 c11 _ _ hB8 | exact agg_of c0 c1 c2 c3 c4 c5 c6 c7 d8 d9 d10 c11 _ _ hB7)
        (first
          | (refine step_appC (W := wc.drew) rfl _ _ 24 5 (.int .u8 0) 1 rfl Try.underlying24 info5 rfl (by decide) rfl A2 (u8s bs2) n2 p2 ?_ rfl hR2 (u8s_one bs2) ?_ ?_; (rw [u8s_len, hL2]); (rw [u8s_len, hL2]; omega); intro v9 w9 hR9 hf9 hN9)
          | (refine step_appN rfl _ _ 24 5 (.int .u8 0) 1 rfl Try.underlying24 info5 rfl (by decide) v9 (u8s bs2) rfl A3 (u8s bs3) n3 p3 ?_ rfl hR9 ?_ (u8s_one bs3) ?_ ?_; (rw [u8s_len, hL3]); exact hR3.fr hf9 (fun _ _ => id); (rw [u8s_len, hL2, u8s_len, hL3]; omega); intro v8 w8 hR8 hat8 hf8; have hB8 := hf8.blk (hf9.blk hB5 id) (fun h => by have := hN9 _ h; omega))
          | (obtain ⟨A8, k8, he8, _⟩ := hR8.rd; subst he8; rw [List.length_append] at hR8; go_simp; go_at_call 9; refine (cut_ok c0 c1 c2 c3 c4 c5 c6 c7 d8 d9 d10 c11 b1 b3 ?_ b5 ?_ A8 _ k8 (bs2 ++ bs3) w8 (cat_rdB hR8 hD2.2.1 hD3.2.1) ?_).mono ?_; omega; omega; (rw [u8s_len, hL2, u8s_len, hL3]; omega); rintro e w7 ⟨v7, rfl, hR7, hf7, hN7⟩; have hB7 := hf7.blk hB8 id))
      go_wp2
      go_meet
      case rel => exact ⟨rfl, hR7, ((((Fr.refl _ wc).drew.trans hf9 (fun _ _ h => h)).trans hf8 (fun i hi h => by have := hN9 i h; simp only [World.drew] at this; omega)).trans hf7 (fun _ _ h => h))⟩
    case rest =>
      obtain ⟨w8, rfl⟩ : ∃ w8 : World, w8 = wc := ⟨_, rfl⟩
      obtain ⟨rfl, hY, hf5⟩ := hcut
      have hok : (⟨d8, d9, d10⟩ : Cf).ok := ⟨b1, b3, by simp only; omega, b5, by simp only; omega⟩
      obtain ⟨lx1, lx2⟩ := lens_ok ⟨d8, d9, d10⟩ hok (bs1 ++ bs3) (by rw [List.length_append]; omega)
      obtain ⟨ly1, ly2⟩ := lens_ok ⟨d8, d9, d10⟩ hok (bs2 ++ bs3) (by rw [List.length_append]; omega)
      have hlaw := meets_law ⟨d8, d9, d10⟩ hok bs1 bs2 bs3
      rw [hL1, hL2] at hlaw
      have hX8 := hX.fr hf5 (fun _ _ => id)
      have f8 := f4.trans hf5 (fun _ _ h => h)
      clear hX hf5 f4 hB4 hl4 hR2 hR3 hok b1 b2 b3 b4 b5 b6
      generalize lensOf (St.run ⟨d8, d9, d10⟩ ⟨[], [], []⟩ (bs1 ++ bs3)).parts = KX at hX8 lx1 lx2 hlaw
      generalize lensOf (St.run ⟨d8, d9, d10⟩ ⟨[], [], []⟩ (bs2 ++ bs3)).parts = KY at hY ly1 ly2 hlaw
      obtain ⟨xA, xc, rfl, hXr⟩ := hX8.rd
      obtain ⟨yA, yc, rfl, hYr⟩ := hY.rd
      have Hlaw := Lib.hid hlaw
      clear hlaw
      rw [i64s_len, i64s_len]
      go_wp2_with fail
      refine (ends_any xA xc KX n1 w8 hXr lx1 (by omega) (by omega) lx2).mono ?_
      rintro e w9 ⟨xv, rfl, hE9, hf9, _⟩
      have hYr9 := hYr.fr hf9 (fun _ _ => id)
      go_wp2_with fail
      refine (ends_any yA yc KY n2 w9 hYr9 ly1 (by omega) (by omega) ly2).mono ?_
      rintro e w10 ⟨yv, rfl, hY10, hf10, _⟩
      have hX10 := hE9.fr hf10 (fun _ _ => id)
      have f10 := (f8.trans hf9 (fun _ _ h => h)).trans hf10 (fun _ _ h => h)
      clear hX8 hY hXr hYr hYr9 hE9 hf9 hf10 f8
      have lxx : (accs (-(n1 : Int)) KX).length ≤ 1000000 := by rw [accs_len]; exact lx1
      have lyy : (accs (-(n2 : Int)) KY).length ≤ 1000000 := by rw [accs_len]; exact ly1
      generalize accs (-(n1 : Int)) KX = X at hX10 lxx Hlaw
      generalize accs (-(n2 : Int)) KY = Y at hY10 lyy Hlaw
      obtain ⟨xA, xc, rfl, hXr⟩ := hX10.rd
      obtain ⟨yA, yc, rfl, hYr⟩ := hY10.rd
      rw [i64s_len, i64s_len]
      go_wp2_with fail
      clear lx1 lx2 ly1 ly2
      go_loopw [15] (fun i W => ∃ k : Nat, k ≤ X.length ∧ i = .int .i64 k ∧ ∃ q, W = w10.drewN q) (fun i _ => X.length - (intOf i).toNat)
      case atStart => exact ⟨0, Nat.zero_le _, rfl, 0, rfl⟩
      case round =>
        obtain ⟨k, hk, rfl, q, rfl⟩ := hrel
        by_cases hkx : k < X.length
        · go_wp2_with fail
          try rw [show decide ((k : Int) < (X.length : Int)) = true from decide_eq_true (by omega)]
          go_loopw [16] (fun i W => ∃ j : Nat, j ≤ Y.length ∧ i = .int .i64 j ∧ ∃ q, W = w10.drewN q) (fun i _ => Y.length - (intOf i).toNat)
          case atStart => exact ⟨0, Nat.zero_le _, rfl, q, rfl⟩
          case round =>
            obtain ⟨j, hj, rfl, q2, rfl⟩ := hrel
            by_cases hjy : j < Y.length
            · obtain ⟨xb, rfl, hxc⟩ : ∃ xb, xA = some ⟨xb, 0, none⟩ ∧ X.length ≤ xc := by
                rcases hX10.form with ⟨h', _⟩ | ⟨g', c', cur, h', _, hle, _⟩
                · injection h' with h1 h2 h3
                  rw [i64s_len] at h2
                  omega
                · injection h' with h1 h2 h3
                  rw [i64s_len] at hle
                  exact ⟨_, h1, by omega⟩
              obtain ⟨yb, rfl, hyc⟩ : ∃ yb, yA = some ⟨yb, 0, none⟩ ∧ Y.length ≤ yc := by
                rcases hY10.form with ⟨h', _⟩ | ⟨g', c', cur, h', _, hle, _⟩
                · injection h' with h1 h2 h3
                  rw [i64s_len] at h2
                  omega
                · injection h' with h1 h2 h3
                  rw [i64s_len] at hle
                  exact ⟨_, h1, by omega⟩
              have j1 : ∀ q, (w10.drewN q).cell? ⟨xb, k, none⟩ = some (.int .i64 (X.getD k 0)) := fun q => (hX10.drewN q).cell k (i64s_at hkx)
              have j2 : ∀ q, (w10.drewN q).cell? ⟨yb, j, none⟩ = some (.int .i64 (Y.getD j 0)) := fun q => (hY10.drewN q).cell j (i64s_at hjy)
              have j3 : (⟨xb, 0, none⟩ : Addr).add k = ⟨xb, k, none⟩ := add_plain xb k
              have j4 : (⟨yb, 0, none⟩ : Addr).add j = ⟨yb, j, none⟩ := add_plain yb j
              have hxk : X[k]? = some (X.getD k 0) := by simp [List.getD_eq_getElem?_getD, List.getElem?_eq_getElem hkx]
              have hyj : Y[j]? = some (Y.getD j 0) := by simp [List.getD_eq_getElem?_getD, List.getElem?_eq_getElem hjy]
              generalize X.getD k 0 = xk at j1 hxk
              generalize Y.getD j 0 = yj at j2 hyj
              have Hxk := Lib.hid hxk
              have Hyj := Lib.hid hyj
              clear hxk hyj
              go_upto_region 16 with fail
              try rw [show decide ((j : Int) < (Y.length : Int)) = true from decide_eq_true (by omega)]
              go_cut [94] (fun t W => t = .bool (decide (xk = yj) && decide (15 ≤ xk)) ∧ ∃ q, W = w10.drewN q)
              case first =>
                by_cases e1 : xk = yj
                · have e1' : (xk == yj) = true := by simpa using e1
                  go_quiet (fail)
                  go_wp2
                  go_meet
                  case rel => exact ⟨congrArg Value.bool (by simp [e1]), _, World.drewN_drewN _ _ _⟩
                · have e1' : (xk == yj) = false := by simpa using e1
                  go_quiet (fail)
                  go_wp2
                  go_meet
                  case rel => exact ⟨congrArg Value.bool (by simp [e1]), _, World.drewN_drewN _ _ _⟩
              case rest =>
                obtain ⟨ht, q3, rfl⟩ := hcut
                by_cases hm : xk = yj ∧ 15 ≤ xk
                · obtain ⟨rfl, h15⟩ := hm
                  rw [show (decide (xk = xk) && decide (15 ≤ xk)) = true by simp [h15]] at ht
                  subst ht
                  have hsame := Hlaw.out k j xk h15 Hxk.out Hyj.out
                  have f11 := f10.drewN q3
                  have hX11 : Row (w10.drewN q3) 3 (.slice (some ⟨xb, 0, none⟩) (i64s X).length xc) (i64s X) := hX10
                  have hY11 : Row (w10.drewN q3) 3 (.slice (some ⟨yb, 0, none⟩) (i64s Y).length yc) (i64s Y) := hY10
                  clear j1 j2
                  generalize w10.drewN q3 = w11 at f11 hX11 hY11 ⊢
                  have hcall : ∀ q, Calls Try.prog 12 #[.slice (some ⟨xb, k, none⟩) (X.length - k) (xc - k), .slice (some ⟨yb, j, none⟩) (Y.length - j) (yc - j)] (w11.drewN q) fun e w' => e = .returned (.bool true) ∧ ∃ m, w' = w11.drewN m := by
                    intro q
                    have e1 : (X.drop k).length = X.length - k := List.length_drop
                    have e2 : (Y.drop j).length = Y.length - j := List.length_drop
                    have part : ∀ (Z : List Int) (zb k : Nat) (zc : Nat), Row w11 3 (.slice (some ⟨zb, 0, none⟩) Z.length zc) (i64s Z) → Rd (w11.drewN q) (some ⟨zb, k, none⟩) (i64s (Z.drop k)) := by
                      intro Z zb k zc hZ i v hv
                      refine ⟨_, rfl, ?_⟩
                      rw [show (⟨zb, k, none⟩ : Addr).add i = ⟨zb, k + i, none⟩ by unfold Addr.add; split <;> simp_all]
                      refine (hZ.drewN q).cell (k + i) ?_
                      simp only [i64s, List.getElem?_map, List.getElem?_drop] at hv ⊢
                      exact hv
                    rw [i64s_len] at hX11 hY11
                    rw [← e1, ← e2]
                    refine (same_any (some ⟨xb, k, none⟩) (some ⟨yb, j, none⟩) (xc - k) (yc - j) (X.drop k) (Y.drop j) (w11.drewN q) (part X xb k xc hX11) (part Y yb j yc hY11) (by rw [e1]; omega) (by rw [e2]; omega)).mono ?_
                    rintro e w' ⟨rfl, m, rfl⟩
                    exact ⟨ret_bool (by simpa using hsame), _, World.drewN_drewN _ _ _⟩
                  have Hcall := Lib.hid hcall
                  clear hcall hsame
                  have t1 : ¬ xc = k := by have := hxc; omega
                  have t2 : ¬ yc = j := by have := hyc; omega
                  have t3 : (k : Int) ≤ (X.length : Int) := by omega
                  have t4 : (j : Int) ≤ (Y.length : Int) := by omega
                  go_upto_region 17 with fail
                  go_quiet ((go_at_call 12; exact Hcall.out _))
                  go_wp2
                  go_ret
                  exact ⟨rfl, f11.drewN _⟩
                · rw [show (decide (xk = yj) && decide (15 ≤ xk)) = false by simpa using hm] at ht
                  subst ht
                  go_wp2
                  go_roundw
                  case rel => exact ⟨j + 1, by omega, by go_num, q3, rfl⟩
                  case measure => simp [intOf]; omega
            · go_wp2
              go_roundw
              case rel => exact ⟨k + 1, by omega, by go_num, q2, rfl⟩
              case measure => simp [intOf]; omega
        · go_wp2
          go_ret
          exact ⟨rfl, f10.drewN q⟩
set_option maxHeartbeats 400000 in
set_option maxRecDepth 100000 in
theorem meets_long (c0 c1 c2 c3 c4 c5 c6 c7 c8 c9 c10 c11 : Int) (A1 : Option Addr) (n1 p1 : Nat) (A2 : Option Addr) (n2 p2 : Nat) (A3 : Option Addr) (n3 p3 : Nat) (w : World) (hn1 : n1 ≤ 140737488355328) (hn2 : n2 ≤ 140737488355328) (hn3 : n3 ≤ 140737488355328) (hn : 30000 < n1 + n2 + n3) :
    Calls Try.prog 6 #[.agg #[.int .i64 c0, .int .i64 c1, .int .i64 c2, .int .i64 c3, .int .i64 c4, .int .i64 c5, .int .i64 c6, .int .i64 c7, .int .i64 c8, .int .i64 c9, .int .i64 c10, .int .i64 c11], .slice A1 n1 p1, .slice A2 n2 p2, .slice A3 n3 p3] w fun e w' => e = .returned (.bool true) ∧ Fr (fun _ => False) w w' := by
  have f0 : Fr (fun _ => False) w (w.alloc (.cells (i64s [c0, c1, c2, c3, c4, c5, c6, c7, c8, c9, c10, c11]).toArray 23)) := (Fr.refl _ w).alloc _
  have q1 : IntKind.i64.wrap ((n1 : Int) + (n2 : Int)) = (n1 : Int) + (n2 : Int) := IntWalk.i64_in _ (by omega)
  have q2 : IntKind.i64.wrap ((n1 : Int) + (n2 : Int) + (n3 : Int)) = (n1 : Int) + (n2 : Int) + (n3 : Int) := IntWalk.i64_in _ (by omega)
  have q3 : 30000 < (n1 : Int) + (n2 : Int) + (n3 : Int) := by omega
  go_enter Try.func6, Try.ntmps6
  go_upto_region 2 with (go_at_call 8; refine (awake_any _).mono ?_; rintro e w1 ⟨rfl, hf1⟩)
  have f1 := f0.trans hf1 (fun _ _ h => h)
  go_wp2_with fail
  refine (awake_any _).mono ?_
  rintro e w2 ⟨rfl, hf2⟩
  go_wp2
  go_ret
  exact ⟨rfl, f1.trans hf2 (fun _ _ h => h)⟩
/-- ChunkMeets answers true, whatever it is given, and leaves what was there. -/
theorem meets_any (c0 c1 c2 c3 c4 c5 c6 c7 c8 c9 c10 c11 : Int) (A1 : Option Addr) (n1 p1 : Nat) (bs1 : List Int) (A2 : Option Addr) (n2 p2 : Nat) (bs2 : List Int) (A3 : Option Addr) (n3 p3 : Nat) (bs3 : List Int) (w : World)
    (hD1 : RdB w A1 n1 bs1) (hD2 : RdB w A2 n2 bs2) (hD3 : RdB w A3 n3 bs3) (hn1 : n1 ≤ 140737488355328) (hn2 : n2 ≤ 140737488355328) (hn3 : n3 ≤ 140737488355328) :
    Calls Try.prog 6 #[.agg #[.int .i64 c0, .int .i64 c1, .int .i64 c2, .int .i64 c3, .int .i64 c4, .int .i64 c5, .int .i64 c6, .int .i64 c7, .int .i64 c8, .int .i64 c9, .int .i64 c10, .int .i64 c11], .slice A1 n1 p1, .slice A2 n2 p2, .slice A3 n3 p3] w fun e w' => e = .returned (.bool true) ∧ Fr (fun _ => False) w w' := by
  by_cases hn : n1 + n2 + n3 ≤ 30000
  · exact meets_ok c0 c1 c2 c3 c4 c5 c6 c7 c8 c9 c10 c11 A1 n1 p1 bs1 A2 n2 p2 bs2 A3 n3 p3 bs3 w hD1 hD2 hD3 hn
  · exact meets_long c0 c1 c2 c3 c4 c5 c6 c7 c8 c9 c10 c11 A1 n1 p1 A2 n2 p2 A3 n3 p3 w hn1 hn2 hn3 (by omega)
end Go.Proofs.Yticlbmeldcncnaa

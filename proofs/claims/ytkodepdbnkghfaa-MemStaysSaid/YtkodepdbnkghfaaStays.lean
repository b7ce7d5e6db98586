/- The law MemStays, walked. Conditions: those of the lemmas. -/
import Derived.Test.YtkodepdbnkghfaaPlays
namespace Go.Proofs.Ytkodepdbnkghfaa
open Go.RowKit
attribute [local go_sem ↓] Go.wp_at_zero Go.wp_at_succ
/-- A map and its list. -/
structure Ent where
  q : Option Addr
  A : Option Addr
  c : Nat
  t : Tr Int
def Ent.mp (e : Ent) : Value := .pointer e.q
def Ent.ls (e : Ent) : Value := .slice e.A e.t.toL.length e.c
structure Good (W : World) (n : Nat) (e : Ent) : Prop where
  is : IsI W e.q e.t
  ls : Lst W e.A e.c e.t.toL
  srt : Srt e.t.toL
  len : e.t.toL.length ≤ n
theorem Good.fr {S : Nat → Prop} {W W' : World} {n m : Nat} {e : Ent} (h : Good W n e) (hf : Fr S W W') (h1 : ∀ b cs, Blk W b cs 68 → ¬ S b) (h2 : ∀ b cur, W.heap[b]? = some (.cells cur 59 (0, 0)) → ¬ S b) (hm : n ≤ m) : Good W' m e :=
  ⟨h.is.fr hf h1, h.ls.frT hf h2, h.srt, by have := h.len; omega⟩
theorem Good.new {W W' : World} {n m : Nat} {e : Ent} (h : Good W n e) (hf : Fr (fun _ => False) W W') (hm : n ≤ m) : Good W' m e := h.fr hf (fun _ _ _ => id) (fun _ _ _ => id) hm
/-- Blocks of another kind. -/
theorem kind_no {W : World} {t : TypeId} {v : Value} {xs : List Value} (h : Row W t v xs) (h1 : t ≠ 68) (h2 : t ≠ 59) : (∀ b cs, Blk W b cs 68 → ¬ v.ownBlock = some b) ∧ (∀ b cur, W.heap[b]? = some (.cells cur 59 (0, 0)) → ¬ v.ownBlock = some b) := by
  constructor
  · intro b cs hb hh
    obtain ⟨cur, hc⟩ := h.kind hh
    exact kinds_ne hc hb.out h1 rfl
  · intro b cur hb hh
    obtain ⟨cur', hc⟩ := h.kind hh
    exact kinds_ne hc hb h2 rfl
theorem blk_no {W : World} {b : Nat} {t : TypeId} {cs : List Value} (h : Blk W b cs t) (h1 : t ≠ 68) (h2 : t ≠ 59) : (∀ i c, Blk W i c 68 → ¬ i = b) ∧ (∀ i cur, W.heap[i]? = some (.cells cur 59 (0, 0)) → ¬ i = b) := by
  constructor
  · intro i c hb hh
    subst hh
    exact h1 (h.inj hb)
  · intro i cur hb hh
    subst hh
    exact kinds_ne h.out hb h2 rfl
theorem infoM : (Try.prog.info? 40).map (fun i => (i.zero, i.size, i.bytes)) = some (some (.agg #[.pointer none]), 1, 8) := by kernel_rfl
theorem infoL : (Try.prog.info? 41).map (fun i => (i.zero, i.size, i.bytes)) = some (some (.slice none 0 0), 1, 24) := by kernel_rfl
structure SI (W wr : World) (mb : Nat) (mv lv : Value) (es : List Ent) (e : Ent) (n : Nat) : Prop where
  fr : Fr (fun _ => False) W wr
  var : Blk wr mb [.pointer e.q] 40
  maps : Row wr 40 mv (es.map Ent.mp)
  lists : Row wr 41 lv (es.map Ent.ls)
  mapsN : ∀ k, mv.ownBlock = some k → W.heap.size ≤ k ∧ k ≠ mb
  listsN : ∀ k, lv.ownBlock = some k → W.heap.size ≤ k
  cur : Good wr n e
  all : ∀ x ∈ es, Good wr n x
theorem SI.drew {W wr : World} {mb : Nat} {mv lv : Value} {es : List Ent} {e : Ent} {n : Nat} (h : SI W wr mb mv lv es e n) : SI W wr.drew mb mv lv es e n := by
  have hf : Fr (fun _ => False) wr wr.drew := (Fr.refl _ wr).drew
  exact ⟨h.fr.drew, h.var.drew, h.maps.drew, h.lists.drew, h.mapsN, h.listsN, h.cur.new hf (Nat.le_refl _), fun x hx => (h.all x hx).new hf (Nat.le_refl _)⟩
/-- An elder one is gone on with. -/
theorem SI.turn {W wr : World} {mb : Nat} {mv lv : Value} {es : List Ent} {e x : Ent} {n : Nat} (h : SI W wr mb mv lv es e n) (hx : Good wr n x) (hB : W.heap.size ≤ mb) : SI W (wr.setCell ⟨mb, 0, none⟩ (.pointer x.q)) mb mv lv es x n := by
  have g3 : Fr (fun i => i = mb) wr (wr.setCell ⟨mb, 0, none⟩ (.pointer x.q)) := (Fr.refl _ wr).set1 _ _
  have hno := blk_no h.var (by decide) (by decide)
  exact ⟨h.fr.trans g3 (fun i hi hh => by omega), h.var.set 0 _, h.maps.fr g3 (fun q hq hh => (h.mapsN q hq).2 hh), h.lists.fr g3 (fun q hq hh => by subst hh; exact (h.lists.ne h.var (by decide)) hq), h.mapsN, h.listsN, hx.fr g3 hno.1 hno.2 (Nat.le_refl _), fun y hy => (h.all y hy).fr g3 hno.1 hno.2 (Nat.le_refl _)⟩
set_option maxHeartbeats 4000000 in
set_option maxRecDepth 100000 in
theorem stays_any {W : World} {B : Option Addr} {n cp : Nat} {s : List Op3} (hs : s.length = n) (hr : Rd W B (ops3 s).flatten) (hn : n ≤ 9223372036854775807) :
    Calls Try.prog 5 #[.slice B n cp] W fun e w' => e = .returned (.bool true) ∧ Fr (fun _ => False) W w' := by
  by_cases hn80 : n ≤ 80
  case neg =>
    go_enter Try.func5, Try.ntmps5
    go_wp2_with fail
    refine (awake_any _).mono ?_
    rintro e w1 ⟨rfl, hf1⟩
    have hr1 : Rd w1 B (ops3 s).flatten := hr.fr hf1 (fun _ _ => id)
    go_wp2_with fail
    refine (few_any hs hr1 hn).mono ?_
    rintro e w2 ⟨b, rfl, hb, rfl⟩
    clear hr1 hb
    cases b with
    | false =>
      go_wp2_with fail
      refine (awake_any _).mono ?_
      rintro e w2 ⟨rfl, hf2⟩
      go_wp2
      go_ret
      exact ⟨rfl, hf1.trans hf2 (fun _ _ h => h)⟩
    | true =>
      go_wp2_with fail
      refine (awake_any _).mono ?_
      rintro e w2 ⟨rfl, hf2⟩
      go_wp2
      go_ret
      exact ⟨rfl, hf1.trans hf2 (fun _ _ h => h)⟩
  case pos =>
  go_enter Try.func5, Try.ntmps5
  go_wp2_with fail
  refine (awake_any _).mono ?_
  rintro e w1 ⟨rfl, hf1⟩
  have hr1 : Rd w1 B (ops3 s).flatten := hr.fr hf1 (fun _ _ => id)
  go_wp2_with fail
  refine (few_any hs hr1 hn).mono ?_
  rintro e w2 ⟨b, rfl, hb, rfl⟩
  clear hr1 hb
  cases b with
  | false =>
    go_wp2_with fail
    refine (awake_any _).mono ?_
    rintro e w2 ⟨rfl, hf2⟩
    go_wp2
    go_ret
    exact ⟨rfl, hf1.trans hf2 (fun _ _ h => h)⟩
  | true =>
    clear hn
    have hm0 : Blk (w1.alloc (.cells #[.pointer none] 40)) w1.heap.size [.pointer none] 40 := Blk.at_new _ _ _ _ _ rfl rfl
    have f0 := hf1.alloc (.cells #[.pointer none] 40)
    have hmB : W.heap.size ≤ w1.heap.size := hf1.size
    go_wp2_with fail
    generalize w1.alloc (.cells #[.pointer none] 40) = w2 at hm0 f0 ⊢
    generalize w1.heap.size = mb at hm0 hmB ⊢
    clear hf1
    go_loopw [4, 5, 6, 7] (fun l mv lv i wr => ∃ (j : Nat) (es : List Ent) (e : Ent), i = .int .i64 j ∧ j ≤ n ∧ es.length = j ∧ l = e.ls ∧ SI W wr mb mv lv es e j) (fun _ _ _ i _ => n - (intOf i).toNat)
    case atStart => exact ⟨0, [], ⟨none, none, 0, .nil⟩, rfl, Nat.zero_le _, rfl, rfl, ⟨f0, hm0, Row.nil _ _, Row.nil _ _, (fun k hk => by simp [Value.ownBlock] at hk), (fun k hk => by simp [Value.ownBlock] at hk), ⟨rfl, Lst.nil _, List.Pairwise.nil, Nat.le_refl _⟩, fun x hx => by simp at hx⟩⟩
    case round =>
      clear hm0 f0
      obtain ⟨j, es, e, rfl, hj, hes, rfl, hI⟩ := hrel
      by_cases hjn : j < n
      · have hjs : j < s.length := by omega
        have ho := List.getElem?_eq_getElem hjs
        obtain ⟨ad, rfl, c0, c1, c2⟩ := ops3_cells (hr.fr hI.fr (fun _ _ => id)) ho
        have hadW : ad.block < W.heap.size := by
          obtain ⟨ad', e', h0, _⟩ := ops3_cells hr ho
          cases e'
          have := World.block_lt_of_cell? W _ h0
          rwa [add_block] at this
        have hcell : ∀ w', Fr (fun _ => False) W w' → w'.cell? (ad.add (j * 3)) = some (.int .i64 (s[j]'hjs).kind) ∧ w'.cell? ⟨(ad.add (j * 3)).block, (ad.add (j * 3)).off + 1, none⟩ = some (.string (s[j]'hjs).key) ∧ w'.cell? ⟨(ad.add (j * 3)).block, (ad.add (j * 3)).off + 2, none⟩ = some (.int .i64 (s[j]'hjs).val) := by
          intro w' hfw
          obtain ⟨ad', e', h0, h1, h2⟩ := ops3_cells (hr.fr hfw (fun _ _ => id)) ho
          cases e'
          exact ⟨h0, h1, h2⟩
        generalize s[j]'hjs = o at hcell
        have Hcell := Lib.hid hcell
        have i0 : (0 : Int) ≤ (j : Int) := by omega
        have i1 : (j : Int) < (n : Int) := by omega
        have hes' : Hid (es.length = j) := hes
        have hml : ((es.map Ent.mp).length + 1) * 8 ≤ 140737488355328 := by rw [List.length_map]; omega
        have hll : ((es.map Ent.ls).length + 1) * 24 ≤ 140737488355328 := by rw [List.length_map]; omega
        have Hl := Lib.hid (And.intro hml hll)
        clear hml hll hes hcell c0 c1 c2 ho
        obtain ⟨hF, hV, hM, hLs, hMN, hLN, hC, hAll⟩ := hI
        have kV := hV.cell 0 rfl
        have hls : e.ls = .slice e.A e.t.toL.length e.c := rfl
        have Hls := Lib.hid hls
        rw [Hls.out]
        clear hls
        go_upto_region 11 with (at_builtin; go_must (refine app1 rfl _ _ 50 40 (.agg #[.pointer none]) 8 rfl Try.underlying50 infoM rfl (by decide) u5 (es.map Ent.mp) (.pointer e.q) rfl rfl rfl hM Hl.out.1 ?_); intro g c w3 hM3 hor3 hf3 _)
        have hS3 := kind_no hM (by decide) (by decide)
        have hC3 := hC.fr hf3 hS3.1 hS3.2 (Nat.le_refl j)
        have hAll3 : ∀ x ∈ es, Good w3 j x := fun x hx => (hAll x hx).fr hf3 hS3.1 hS3.2 (Nat.le_refl j)
        have hLs3 := hLs.fr hf3 (fun q hq hh => hM.ne_row hLs (by decide) q hh hq)
        have hV3 := hf3.blk hV (fun hh => (hMN _ hh).2 rfl)
        have hF3 := hF.trans hf3 (fun i hi hh => by have := (hMN i hh).1; omega)
        have hMN3 : W.heap.size ≤ g ∧ g ≠ mb := by
          rcases hor3 with h' | h'
          · exact hMN _ h'
          · have h1 := hV.lt
            have h2 := hF.size
            exact ⟨by omega, by omega⟩
        clear hM hLs hV hF hC hAll hMN hor3 hf3 hS3 kV
        go_upto_region 12 with (at_builtin; go_must (refine app1 rfl _ _ 51 41 (.slice none 0 0) 24 rfl Try.underlying51 infoL rfl (by decide) u6 (es.map Ent.ls) (.slice e.A e.t.toL.length e.c) rfl rfl rfl hLs3 Hl.out.2 ?_); intro g2 c2' w4 hL4 hor4 hf4 _)
        have hS4 := kind_no hLs3 (by decide) (by decide)
        have hC4 := hC3.fr hf4 hS4.1 hS4.2 (Nat.le_refl j)
        have hAll4 : ∀ x ∈ es, Good w4 j x := fun x hx => (hAll3 x hx).fr hf4 hS4.1 hS4.2 (Nat.le_refl j)
        have hM4 := hM3.fr hf4 (fun q hq hh => hLs3.ne_row hM3 (by decide) q hh hq)
        have hV4 := hf4.blk hV3 (hLs3.ne hV3 (by decide))
        have hF4 := hF3.trans hf4 (fun i hi hh => by have := hLN i hh; omega)
        have hLN4 : W.heap.size ≤ g2 := by
          rcases hor4 with h' | h'
          · exact hLN _ h'
          · have h2 := hF3.size
            omega
        have hM5 : Row w4 40 (.slice (some ⟨g, 0, none⟩) (j + 1) c) ((es ++ [e]).map Ent.mp) := by
          rw [List.map_append]
          rw [List.length_map, hes'.out] at hM4
          exact hM4
        have hL5 : Row w4 41 (.slice (some ⟨g2, 0, none⟩) (j + 1) c2') ((es ++ [e]).map Ent.ls) := by
          rw [List.map_append]
          rw [List.length_map, hes'.out] at hL4
          exact hL4
        have hAll5 : ∀ x ∈ es ++ [e], Good w4 j x := fun x hx => by
          rcases List.mem_append.1 hx with hx | hx
          · exact hAll4 x hx
          · rw [List.mem_singleton.1 hx]; exact hC4
        have hlen5 : (es ++ [e]).length = j + 1 := by rw [List.length_append, hes'.out]; rfl
        rw [show es.length = j from hes'.out]
        clear hC3 hAll3 hLs3 hM3 hV3 hF3 hL4 hor4 hf4 hS4 hAll4 hM4 hLN
        generalize es ++ [e] = es5 at hM5 hL5 hAll5 hlen5
        obtain ⟨kd, ky, vl⟩ := o
        simp only at Hcell
        have d4 : Fr (fun _ => False) w4 w4.drew := (Fr.refl _ w4).drew
        have hct : e.t.cnt ≤ 900000 := by rw [Tr.cnt_len]; have := hC4.len; omega
        have hdoes := does_any (hC4.is.new d4) hct (hC4.ls.new d4) (by have := hC4.len; omega) ⟨kd, ky, vl⟩
        have hdT := does_toL hC4.srt ⟨kd, ky, vl⟩
        have hdS := does_srt hC4.srt ⟨kd, ky, vl⟩
        have hdl := does_len e.t.toL ⟨kd, ky, vl⟩
        have hcl := hC4.len
        rw [← hdT] at hdoes hdS hdl
        clear hdT
        generalize doesT e.t ⟨kd, ky, vl⟩ = t' at hdoes hdS hdl
        simp only at hdoes
        have Hdoes := Lib.hid hdoes
        have HdS := Lib.hid hdS
        have HAll := Lib.hid hAll5
        have HF := Lib.hid hF4
        clear hdoes hdS hC4 hAll5 hF4
        have hm1 := hV4.drew
        have hmbl := hV4.lt
        go_cut [4] (fun lv W' => ∃ e' : Ent, lv = e'.ls ∧ Blk W' mb [.pointer e'.q] 40 ∧ Good W' (j + 1) e' ∧ Fr (fun i => i = mb) w4 W')
        case first =>
          obtain ⟨c0, c1, c2⟩ := Hcell.out _ HF.out.drew
          have km1 := hm1.cell 0 rfl
          go_region_law (first | (go_simp; go_at_call 13; refine Hdoes.out.mono ?_; rintro e5 w5 ⟨q3, A3, c3, rfl, hI3, hL3, hf3, hA3⟩; have hm3 := hf3.blk hm1 id; have hf3' := HF.out.drew.trans hf3 (fun _ _ h => h); have km3 := hm3.cell 0 rfl; have kf3 := hm3.free 0))
          all_goals (
            have g3 : Fr (fun i => i = mb) w5 (w5.setCell ⟨mb, 0, none⟩ (.pointer q3)) := (Fr.refl _ w5).set1 _ _
            go_wp2
            go_meet
            case rel =>
              have hno := blk_no hm3 (by decide) (by decide)
              exact ⟨⟨q3, A3, c3, t'⟩, rfl, hm3.set 0 _, ⟨hI3.fr g3 hno.1, hL3.frT g3 hno.2, HdS.out, by simp only; omega⟩, ((Fr.refl _ w4).drew.trans hf3 (fun _ _ h => h.elim)).trans g3 (fun _ _ h => h)⟩)
        case rest =>
          obtain ⟨e', rfl, hV6, hC6, hf6⟩ := hcut
          have hno := blk_no hV4 (by decide) (by decide)
          have hM6 := hM5.fr hf6 (fun q hq hh => by
            have hq' : g = q := by simpa [Value.ownBlock] using hq
            exact hMN3.2 (hq'.trans hh))
          have hL6 := hL5.fr hf6 (fun q hq hh => by subst hh; exact (hL5.ne hV4 (by decide)) hq)
          have hAll6 : ∀ x ∈ es5, Good wc (j + 1) x := fun x hx => (HAll.out x hx).fr hf6 hno.1 hno.2 (by omega)
          have hF6 : Fr (fun _ => False) W wc := HF.out.trans hf6 (fun i hi hh => by omega)
          obtain ⟨c0, c1, c2⟩ := Hcell.out _ hF6
          clear hV4 hM5 hL5 hf6 hno Hdoes HdS HAll HF d4 hct hdl hm1 c1
          have hI6 : SI W wc mb (.slice (some ⟨g, 0, none⟩) (j + 1) c) (.slice (some ⟨g2, 0, none⟩) (j + 1) c2') es5 e' (j + 1) := ⟨hF6, hV6, hM6, hL6, (fun k hk => by have hq' : g = k := (by simpa [Value.ownBlock] using hk); exact hq' ▸ hMN3), (fun k hk => by have hq' : g2 = k := (by simpa [Value.ownBlock] using hk); exact hq' ▸ hLN4), hC6, hAll6⟩
          by_cases hk : 2 < kd ∧ 0 ≤ vl
          · obtain ⟨hk1, hk2⟩ := hk
            obtain ⟨m, hm⟩ : ∃ m : Nat, vl % ((j : Int) + 1) = (m : Int) := ⟨(vl % ((j : Int) + 1)).toNat, (Int.toNat_of_nonneg (Int.emod_nonneg _ (by omega))).symm⟩
            have hmj : m < j + 1 := by
              have := Int.emod_lt_of_pos vl (show (0 : Int) < (j : Int) + 1 by omega)
              omega
            have hx : es5[m]? = some (es5[m]'(by omega)) := List.getElem?_eq_getElem _
            have k1 : wc.cell? ⟨g, m, none⟩ = some (.pointer (es5[m]'(by omega)).q) := hM6.cell m (by rw [List.getElem?_map, hx]; rfl)
            have k2 : wc.cell? ⟨g2, m, none⟩ = some (.slice (es5[m]'(by omega)).A (es5[m]'(by omega)).t.toL.length (es5[m]'(by omega)).c) := hL6.cell m (by rw [List.getElem?_map, hx]; rfl)
            have hGx := hAll6 _ (List.getElem_mem (show m < es5.length by omega))
            generalize es5[m]'(by omega) = x at k1 k2 hGx
            have a1 : (⟨g, 0, none⟩ : Addr).add m = ⟨g, m, none⟩ := add_plain g m
            have a2 : (⟨g2, 0, none⟩ : Addr).add m = ⟨g2, m, none⟩ := add_plain g2 m
            have kv := hV6.cell 0 rfl
            have kf := hV6.free 0
            have hgm := hMN3.2
            have hg2m : g2 ≠ mb := fun e => (hL6.ne hV6 (by decide)) (by rw [← e]; rfl)
            have g3 : (0 : Int) ≤ (m : Int) := by omega
            have g4 : (m : Int) < (j : Int) + 1 := by omega
            have Hm := Lib.hid hm
            have hE := hI6.turn hGx hmB
            have HE := Lib.hid hE
            clear hm hI6 hM6 hL6 hAll6 hC6 hF6 hx hE
            go_upto_region 15 with fail
            rw [Hm.out]
            go_region
            all_goals (
              go_wp2
              go_roundw
              case rel => exact ⟨j + 1, es5, x, by go_num, by omega, hlen5, rfl, HE.out.drew⟩
              case measure => simp [intOf]; omega)
          · have Hk := Lib.hid hk
            clear hk
            by_cases hk1 : 2 < kd
            · have hk2 : ¬ 0 ≤ vl := fun h => Hk.out ⟨hk1, h⟩
              have HI6 := Lib.hid hI6
              clear hI6 hM6 hL6 hAll6 hC6 hF6
              go_wp2
              go_roundw
              case rel => exact ⟨j + 1, es5, e', by go_num, by omega, hlen5, rfl, HI6.out⟩
              case measure => simp [intOf]; omega
            · have HI6 := Lib.hid hI6
              clear hI6 hM6 hL6 hAll6 hC6 hF6
              go_wp2
              go_roundw
              case rel => exact ⟨j + 1, es5, e', by go_num, by omega, hlen5, rfl, HI6.out⟩
              case measure => simp [intOf]; omega
      · obtain rfl : j = n := by omega
        obtain ⟨mA, mc, rfl⟩ := hI.maps.slice
        obtain ⟨lA, lc, rfl⟩ := hI.lists.slice
        simp only [List.length_map, hes] at hI
        have HI := Lib.hid hI
        have Hes := Lib.hid hes
        clear hI hes
        go_wp2_with fail
        rw [List.length_map, List.length_map, Hes.out]
        obtain ⟨wo, rfl⟩ : ∃ wo : World, wo = wr := ⟨_, rfl⟩
        go_loopw [9] (fun i W' => ∃ k : Nat, i = .int .i64 k ∧ k ≤ j ∧ Fr (fun _ => False) wo W') (fun i _ => j - (intOf i).toNat)
        case atStart => exact ⟨0, rfl, Nat.zero_le _, Fr.refl _ _⟩
        case round =>
          obtain ⟨k, rfl, hk, hf⟩ := hrel
          by_cases hkj : k < j
          · have hes := Hes.out
            have hI := HI.out
            have hx : es[k]? = some (es[k]'(by omega)) := List.getElem?_eq_getElem _
            obtain ⟨g, rfl, hgc⟩ := hI.maps.head (by omega)
            obtain ⟨g2, rfl, hgc2⟩ := hI.lists.head (by omega)
            have k1 : wo.cell? ⟨g, k, none⟩ = some (.pointer (es[k]'(by omega)).q) := hI.maps.cell k (by rw [List.getElem?_map, hx]; rfl)
            have k2 : wo.cell? ⟨g2, k, none⟩ = some (.slice (es[k]'(by omega)).A (es[k]'(by omega)).t.toL.length (es[k]'(by omega)).c) := hI.lists.cell k (by rw [List.getElem?_map, hx]; rfl)
            have hGx := hI.all _ (List.getElem_mem (show k < es.length by omega))
            generalize es[k]'(by omega) = x at k1 k2 hGx
            have a1 : (⟨g, 0, none⟩ : Addr).add k = ⟨g, k, none⟩ := add_plain g k
            have a2 : (⟨g2, 0, none⟩ : Addr).add k = ⟨g2, k, none⟩ := add_plain g2 k
            have i0 : (0 : Int) ≤ (k : Int) := by omega
            have i1 : (k : Int) < (j : Int) := by omega
            have hct : x.t.cnt ≤ 900000 := by rw [Tr.cnt_len]; have := hGx.len; omega
            have Hisf := Lib.hid (fun W' (hfw : Fr (fun _ => False) wo W') => is_any (hGx.is.new hfw) hGx.srt hct (hGx.ls.new hfw) ⟨#[]⟩)
            have Hk := Lib.hid (fun W' (hfw : Fr (fun _ => False) wo W') => And.intro (hfw.cell k1 id) (hfw.cell k2 id))
            clear hI hGx hct hx k1 k2 hes
            go_upto_region 19 with fail
            go_region_held3 (fun w' => w'.cell? ⟨g, k, none⟩ = some (.pointer x.q) ∧ w'.cell? ⟨g2, k, none⟩ = some (.slice x.A x.t.toL.length x.c))
              (first | exact Hk.out _ hf.drew | exact Hk.out _ (hf.drew.trans hf7 (fun _ _ h => h)))
              (first
                | (go_at_call 17; refine (Hisf.out _ hf.drew).mono ?_; rintro e7 w7 ⟨rfl, hf7⟩))
            go_wp2
            go_roundw
            case rel => exact ⟨k + 1, by go_num, by omega, hf.drew.trans hf7 (fun _ _ h => h)⟩
            case measure => simp [intOf]; omega
          · go_wp2
            go_ret
            exact ⟨rfl, HI.out.fr.trans hf (fun _ _ h => h)⟩
end Go.Proofs.Ytkodepdbnkghfaa

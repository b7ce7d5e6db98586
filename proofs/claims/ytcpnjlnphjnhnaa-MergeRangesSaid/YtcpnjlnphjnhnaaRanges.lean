/- The law MergeRanges, walked. Conditions: those of the lemmas. -/
import Derived.Test.YtcpnjlnphjnhnaaAllIt
import Derived.Test.YtcpnjlnphjnhnaaPartsS
import Derived.Test.YtcpnjlnphjnhnaaRisW
import Derived.Sort.CutIn
import Derived.Stop.RegionWithIn
import Derived.Deep.RegionHeld3
namespace Go.Proofs.Ytcpnjlnphjnhnaa
open Go.RowKit Go.Shelf
attribute [local go_sem] Oper.semAt_some
theorem all_any (c : Nat) (W : World) : Calls Try.prog 24 #[.pointer (some ⟨c, 0, none⟩)] W fun en w' => ∃ cpb, en = .returned (.func (.func 30) #[] #[.pointer (some ⟨cpb, 0, none⟩)]) ∧ Blk w' cpb [.pointer (some ⟨c, 0, none⟩)] 29 ∧ Fr (fun _ => False) W w' ∧ W.heap.size ≤ cpb := by
  have hmf : ∀ (fn : Fn) (first cap : Array Value) (w : World), (Instr.makeFunc fn first cap).run Try.prog w = .ok (.func fn first cap) w := fun _ _ _ _ => rfl
  go_enter Try.func24, Try.ntmps24
  go_wp2
  go_ret
  exact ⟨_, rfl, Blk.at_new _ _ _ _ _ rfl rfl, (Fr.refl _ W).alloc _, Nat.le_refl _⟩
def lastE (pre : List (En × Int)) : Int := match pre.getLast? with
  | some p => p.2
  | none => 0
/-- The law's memory inside its range. -/
structure AI (w : World) (A A9 : Option Addr) (cp c9 : Nat) (l L : List En) (e n : Int) (b lB rB sB nB eB : Nat) (pre : List (En × Int)) (W : World) : Prop where
  fr : Fr (fun _ => False) w W
  row : Blk W b [.slice A l.length cp, .int .i64 e] 24
  lv : Blk W lB [.int .i64 n] 3
  res : Blk W rB [.bool false] 4
  lst : Blk W sB [.slice A9 L.length c9] 22
  rd : RdE W A9 L
  num : Blk W nB [.int .i64 ((min pre.length L.length : Nat) : Int)] 3
  last : Blk W eB [.int .i64 (lastE pre)] 45
def NE (L : List En) (n : Int) (pre : List (En × Int)) : Prop := ∀ j : Nat, 1 ≤ j → j ≤ min pre.length L.length → (j : Int) ≠ n
theorem AI.keep {w : World} {A A9 : Option Addr} {cp c9 : Nat} {l L : List En} {e n : Int} {b lB rB sB nB eB : Nat} {pre : List (En × Int)} {W W' : World} {S : Nat → Prop} (h : AI w A A9 cp c9 l L e n b lB rB sB nB eB pre W) (hf : Fr S W W') (h1 : ¬ S b) (h2 : ¬ S lB) (h3 : ¬ S rB) (h4 : ¬ S sB) (h5 : ¬ S nB) (h6 : ¬ S eB) (hA : ∀ ad, A9 = some ad → ¬ S ad.block) (hw : ∀ k, k < w.heap.size → ¬ S k) : AI w A A9 cp c9 l L e n b lB rB sB nB eB pre W' :=
  ⟨h.fr.trans hf (fun i hi hs => hw i hi hs), hf.blk h.row h1, hf.blk h.lv h2, hf.blk h.res h3, hf.blk h.lst h4, h.rd.fr hf hA, hf.blk h.num h5, hf.blk h.last h6⟩
theorem seqT_split {L : List En} {e : Int} {pre rest : List (En × Int)} {x : En × Int} (h : seqT L e = pre ++ x :: rest) : (∃ y, L[pre.length]? = some y ∧ x = (y, 0)) ∨ (pre.length = L.length ∧ e ≠ 0 ∧ x = (En.zero, e)) := by
  have hx : (seqT L e)[pre.length]? = some x := by rw [h]; simp
  unfold seqT at hx
  by_cases hp : pre.length < L.length
  · rw [List.getElem?_append_left (by rw [List.length_map]; exact hp), List.getElem?_map] at hx
    obtain ⟨y, hy, hh⟩ := Option.map_eq_some_iff.1 hx
    exact .inl ⟨y, hy, hh.symm⟩
  · right
    rw [List.getElem?_append_right (by rw [List.length_map]; omega), List.length_map] at hx
    by_cases he : e = 0
    · rw [if_pos he] at hx; simp at hx
    · rw [if_neg he] at hx
      have h0 : pre.length - L.length = 0 := by
        have := (List.getElem?_eq_some_iff.1 hx).1
        simp at this
        omega
      rw [h0] at hx
      simp at hx
      exact ⟨by omega, he, hx.symm⟩
theorem lastE_app (pre : List (En × Int)) (x : En × Int) : lastE (pre ++ [x]) = x.2 := by simp [lastE]
theorem lastE_seqT (L : List En) (e : Int) : lastE (seqT L e) = e := by
  by_cases he : e = 0
  · subst he
    rw [seqT_ok]
    unfold lastE
    cases h : (preT L L.length).getLast? with
    | none => rfl
    | some p =>
      have := List.mem_of_getLast? h
      obtain ⟨y, _, rfl⟩ := List.mem_map.1 this
      rfl
  · rw [seqT_err L he, lastE_app]
theorem seqT_min (L : List En) (e : Int) : min (seqT L e).length L.length = L.length := by
  simp [seqT]
theorem size22 (w : World) : (sizeOf (Try.prog.elem 22)).run Try.prog w = .ok 3 w := by
  kernel_rfl
theorem elem22 : Try.prog.underlying 22 = some (.slice (Try.prog.elem 22)) := by kernel_rfl
def dropA3 (A : Option Addr) (c m : Nat) : Option Addr := if c = m then A else A.map (·.add (m * 3))
theorem sl_drop3 (A : Option Addr) (n c m : Nat) (h1 : m ≤ n) (h2 : n ≤ c) (w : World) : (Instr.slice 22 (.slice A n c) (some (.int .i64 (m : Int))) none none).run Try.prog w = .ok (.slice (dropA3 A c m) (n - m) (c - m)) w := by
  rw [run_slice_l (t := 22) (a := A) (len := n) (cap := c) (ht := elem22) (kl := .i64) (l := (m : Int)) (h0 := by omega) (h1 := by omega), size22]
  simp only [Result.andThen, sliced, dropA3, Int.toNat_natCast]
theorem RdE.drop {W : World} {A : Option Addr} {l : List En} (h : RdE W A l) (c m : Nat) (hm : m ≤ l.length) (hc : l.length ≤ c) : RdE W (dropA3 A c m) (l.drop m) := by
  intro i v hv
  have e : (ens l).flatten = (ens (l.take m)).flatten ++ (ens (l.drop m)).flatten := by
    rw [← List.flatten_append]
    unfold ens
    rw [← List.map_append, List.take_append_drop]
  have hlen : (ens (l.take m)).flatten.length = m * 3 := by
    rw [flat_len _ (ens_three _), ens_len, List.length_take]
    omega
  obtain ⟨ad, rfl, hcc⟩ := h (m * 3 + i) v (by rw [e, List.getElem?_append_right (by omega), hlen, show m * 3 + i - m * 3 = i by omega]; exact hv)
  have hne : c ≠ m := fun hcm => by
    rw [List.drop_of_length_le (by omega)] at hv
    simp [ens] at hv
  refine ⟨ad.add (m * 3), by simp [dropA3, hne], ?_⟩
  rw [add_add]
  exact hcc
theorem dropA3_block {A : Option Addr} {c m : Nat} {ad : Addr} (h : dropA3 A c m = some ad) : ∃ ad0, A = some ad0 ∧ ad.block = ad0.block := by
  unfold dropA3 at h
  split at h
  · exact ⟨ad, h, rfl⟩
  · obtain ⟨ad0, h0, rfl⟩ := Option.map_eq_some_iff.1 h
    exact ⟨ad0, h0, add_block _ _⟩
set_option maxHeartbeats 4000000 in
set_option maxRecDepth 100000 in
theorem ranges_any {W : World} {A : Option Addr} {cp : Nat} {l : List En} (e n : Int) (hR : RdE W A l) : Calls Try.prog 7 #[.agg #[.slice A l.length cp, .int .i64 e], .int .i64 n] W fun en w' => en = .returned (.bool true) ∧ Fr (fun _ => False) W w' := by
  obtain ⟨m, hm⟩ : ∃ m : Nat, m = 9 := ⟨_, rfl⟩
  clear hm
  refine (callsIn_wide (n := m)).1 ?_
  refine callsIn_of_wp_marks Try.func7 rfl trivial ?_ rfl
  simp only [Try.ntmps7, List.size_toArray, List.length_cons, List.length_nil, Nat.reduceAdd, Nat.reduceSub, Array.replicate_succ, Array.replicate_zero, List.push_toArray, List.append_toArray, List.nil_append, List.cons_append]
  have nd : Fence.wide.depth.isSome = true → 1 ≤ m := fun h => by simp [Fence.wide] at h
  have ND := Lib.hid nd
  clear nd
  have hb0 : Blk (W.alloc (.cells #[.slice A l.length cp, .int .i64 e] 24)) W.heap.size [.slice A l.length cp, .int .i64 e] 24 := Blk.at_new _ _ _ _ _ rfl rfl
  have hl0 : Blk ((W.alloc (.cells #[.slice A l.length cp, .int .i64 e] 24)).alloc (.cells #[.int .i64 n] 3)) (W.heap.size + 1) [.int .i64 n] 3 := Blk.at_new _ _ _ _ _ (by simp) rfl
  have hr0 : Blk (((W.alloc (.cells #[.slice A l.length cp, .int .i64 e] 24)).alloc (.cells #[.int .i64 n] 3)).alloc (.cells #[.bool false] 4)) (W.heap.size + 1 + 1) [.bool false] 4 := Blk.at_new _ _ _ _ _ (by simp) rfl
  have f0 : Fr (fun _ => False) W (((W.alloc (.cells #[.slice A l.length cp, .int .i64 e] 24)).alloc (.cells #[.int .i64 n] 3)).alloc (.cells #[.bool false] 4)) := (((Fr.refl _ W).alloc _).alloc _).alloc _
  gi_wp2_with (fail)
  refine ⟨trivial, ND.out, (callsIn_wide.2 (awake_any _)).mono ?_⟩
  rintro en w1 ⟨rfl, hf1⟩
  have hb1 := hf1.blk ((hb0.alloc (.cells #[.int .i64 n] 3)).alloc (.cells #[.bool false] 4)) id
  have hl1 := hf1.blk (hl0.alloc (.cells #[.bool false] 4)) id
  have hr1 := hf1.blk hr0 id
  have f1 := f0.trans hf1 (fun _ _ h => h)
  have hR1 : RdE w1 A l := hR.fr f1 (fun _ _ => id)
  have b0 := hb1.cell 0 rfl
  have b1 := hb1.cell 1 rfl
  have r0 := hr1.cell 0 rfl
  have rf := hr1.free 0
  have rl := hr1.lt
  clear hb0 hl0 hr0 f0 hf1 hR
  generalize hbb : W.heap.size = bb at hb1 hl1 hr1 b0 b1 r0 rf rl ⊢
  have H1 := Lib.hid (And.intro hb1 (And.intro hl1 (And.intro hr1 (And.intro f1 hR1))))
  have hfw := few_any (cp := 1) (RdR.one (cp := cp) e hR1)
  clear hb1 hl1 hr1 f1 hR1
  gi_wp2_with (fail)
  refine ⟨trivial, ND.out, (callsIn_wide.2 hfw).mono ?_⟩
  rintro en w2 ⟨fb, rfl, hf2, hfb⟩
  have g2 := ((Fr.refl (fun _ => False) w1).alloc (.cells #[.slice A l.length cp, .int .i64 e] 24)).trans hf2 (fun _ _ h => h)
  obtain ⟨hb1, hl1, hr1, f1, hR1⟩ := H1.out
  have hb2 := g2.blk hb1 id
  have hl2 := g2.blk hl1 id
  have hr2 := g2.blk hr1 id
  have f2 := f1.trans g2 (fun _ _ h => h)
  have hR2 : RdE w2 A l := hR1.fr g2 (fun _ _ => id)
  clear H1 hb1 hl1 hr1 f1 hR1 hfw b0 b1 r0 rf rl hf2 g2
  cases fb with
  | false =>
    have H2 := Lib.hid (And.intro hr2 f2)
    clear hb2 hl2 hr2 f2 hR2 hfb
    gi_wp2_with (fail)
    refine ⟨trivial, ND.out, (callsIn_wide.2 (awake_any _)).mono ?_⟩
    rintro en w3 ⟨rfl, hf3⟩
    have hr3 := hf3.blk H2.out.1 id
    have k2 := hr3.cell 0 rfl
    have k2f := hr3.free 0
    have k2l := hr3.lt
    have f3 := (H2.out.2.trans hf3 (fun _ _ h => h)).setCell ⟨bb + 1 + 1, 0, none⟩ (.bool true) (fun h => by simp only at h; omega)
    have hc3 := (hr3.set 0 (.bool true)).cell 0 rfl
    clear hf3 H2 hr3
    gi_wp2
    exact ⟨.bool true, by simp [results, Try.results7, go_sem, hc3], rfl, f3⟩
  | true =>
    obtain ⟨_, hfb⟩ := hfb rfl
    have hfew : l.length ≤ 3001 := hfb ⟨A, cp, l, e⟩ (by simp)
    have b0 := hb2.cell 0 rfl
    have hri := rising_any (cp := cp) hR2 (by omega)
    have H2 := Lib.hid (And.intro hb2 (And.intro hl2 (And.intro hr2 f2)))
    have hr2l := hr2.lt
    clear hb2 hl2 hr2 f2 hfb hR2
    gi_wp2_with (fail)
    refine ⟨trivial, ND.out, (callsIn_wide.2 hri).mono ?_⟩
    rintro en w3 ⟨A9, c9, rfl, hR9, hA9, hle9, hmx9, hf3⟩
    have hLris := rising_ris l
    have hLlen := rising_len l
    generalize rising l = L at hR9 hA9 hle9 hLris hLlen ⊢
    have hLs := Blk.at_new w3 [.slice A9 L.length c9] 22 _ _ rfl rfl
    have ga := (Fr.refl (fun _ => False) w3).alloc (.cells #[.slice A9 L.length c9] 22)
    gi_upto_region 4 with (fail)
    simp only [List.toArray] at hLs
    obtain ⟨hb2, hl2, hr2, f2⟩ := H2.out
    have g4 := hf3.trans ga (fun _ _ h => h)
    have hb4 := g4.blk hb2 id
    have hl4 := g4.blk hl2 id
    have hr4 := g4.blk hr2 id
    have f4 := f2.trans g4 (fun _ _ h => h)
    have hR4 : RdE (w3.alloc (.cells #[.slice A9 L.length c9] 22)) A9 L := hR9.fr ga (fun _ _ => id)
    have hA4 : ∀ ad, A9 = some ad → ad.block < w3.heap.size := fun ad h => (hA9 ad h).2.1
    have hs23 : bb + 1 + 1 < w3.heap.size := by have := hf3.size; omega
    have hs4 := f4.size
    clear hb2 hl2 hr2 f2 g4 ga hf3 hri hR9 hA9 H2 b0
    generalize w3.alloc (.cells #[.slice A9 L.length c9] 22) = w4 at hLs hb4 hl4 hr4 f4 hR4 hs4 ⊢
    generalize w3.heap.size = sB at hLs hA4 hs23 ⊢
    have hsBl := hLs.lt
    have b1 := hb4.cell 1 rfl
    have s0 := hLs.cell 0 rfl
    have hov := over_any (cp := c9) e hR4 (by omega)
    rw [told_none hLris] at hov
    have H4 := Lib.hid (And.intro hb4 (And.intro hl4 (And.intro hr4 (And.intro hLs (And.intro f4 hR4)))))
    clear hb4 hl4 hr4 hLs f4 hR4
    gi_wp2_with (fail)
    refine ⟨trivial, ND.out, (callsIn_wide.2 hov).mono ?_⟩
    rintro en w5 ⟨d, rfl, hd, hc5, hf5, hn5⟩
    have hlo5 : ∀ k, d.foot k → sB < k := fun k hk => by
      rcases hn5 k hk with h | h
      · omega
      · exact h.elim
    have hhi5 := hc5.foot_lt
    clear hov hn5 b1 s0
    gi_upto_region 7 with (fail)
    have g7 : Fr (fun _ => False) w5 ((w5.alloc (.cells #[.int .i64 0] 3)).alloc (.cells #[.int .i64 0] 45)) := ((Fr.refl _ w5).alloc _).alloc _
    have hn7 : Blk ((w5.alloc (.cells #[.int .i64 0] 3)).alloc (.cells #[.int .i64 0] 45)) w5.heap.size [.int .i64 0] 3 := (Blk.at_new _ _ _ _ _ rfl rfl).alloc _
    have he7 : Blk ((w5.alloc (.cells #[.int .i64 0] 3)).alloc (.cells #[.int .i64 0] 45)) (w5.heap.size + 1) [.int .i64 0] 45 := Blk.at_new _ _ _ _ _ (by simp) rfl
    obtain ⟨hb4, hl4, hr4, hLs, f4, hR4⟩ := H4.out
    have g47 := hf5.trans g7 (fun _ _ h => h)
    have hI7 : AI W A A9 cp c9 l L e n bb (bb + 1) (bb + 1 + 1) sB w5.heap.size (w5.heap.size + 1) [] ((w5.alloc (.cells #[.int .i64 0] 3)).alloc (.cells #[.int .i64 0] 45)) :=
      ⟨f4.trans g47 (fun _ _ h => h), g47.blk hb4 id, g47.blk hl4 id, g47.blk hr4 id, g47.blk hLs id, hR4.fr g47 (fun _ _ => id), by simpa using hn7, he7⟩
    have hc7 := hc5.new hd g7
    have hs7 := g47.size
    clear hb4 hl4 hr4 hLs f4 hR4 g47 g7 hn7 he7 hc5 hf5 H4
    generalize (w5.alloc (.cells #[.int .i64 0] 3)).alloc (.cells #[.int .i64 0] 45) = w7 at hI7 hc7 hs7 ⊢
    generalize w5.heap.size = nB at hI7 hhi5 ⊢
    gi_wp2_with (fail)
    refine ⟨trivial, ND.out, (callsIn_wide.2 (all_any d.cb w7)).mono ?_⟩
    rintro en w8 ⟨cpb, rfl, hcp8, hf8, hcpl⟩
    have hc8 := hc7.new hd hf8
    have hI8 : AI W A A9 cp c9 l L e n bb (bb + 1) (bb + 1 + 1) sB nB (nB + 1) [] w8 :=
      ⟨hI7.fr.trans hf8 (fun _ _ h => h), hf8.blk hI7.row id, hf8.blk hI7.lv id, hf8.blk hI7.res id, hf8.blk hI7.lst id, hI7.rd.fr hf8 (fun _ _ => id), hf8.blk hI7.num id, hf8.blk hI7.last id⟩
    have hncp : ¬ d.foot cpb := fun h => by have := hc7.foot_lt _ h; omega
    have hcpn : nB + 1 < cpb := by have := hI7.last.lt; omega
    have hsz8 := hI8.fr.size
    have hcp8l := hcp8.lt
    have hft8 := hc8.foot_lt
    have hit := fun ll J Jx W' => all_iter (m := m) hd cpb w8 hcp8 hc8 hncp ll J Jx W'
    clear hI7 hc7 hf8 hcpl
    gi_wp2_with (fail)
    have hsn : sB < nB := by
      have := hlo5 d.cb (.inl rfl)
      have := hhi5 d.cb (.inl rfl)
      omega
    have hnl : nB + 1 < w8.heap.size := by omega
    have hTurn : ∀ (W' : World) (k : Nat), k < w8.heap.size → ¬ Turn w8.heap.size W' k := fun W' k hk h => by have := h.1; omega
    have keepT : ∀ (pre : List (En × Int)) (W1 W2 : World), AI W A A9 cp c9 l L e n bb (bb + 1) (bb + 1 + 1) sB nB (nB + 1) pre W1 → Fr (Turn w8.heap.size W1) W1 W2 → AI W A A9 cp c9 l L e n bb (bb + 1) (bb + 1 + 1) sB nB (nB + 1) pre W2 := fun pre W1 W2 h hf => by
      have hT := hTurn W1
      exact h.keep hf (hT _ (by omega)) (hT _ (by omega)) (hT _ (by omega)) (hT _ (by omega)) (hT _ (by omega)) (hT _ (by omega)) (fun ad h => hT _ (by have := hA4 ad h; omega)) (fun k hk => hT _ (by omega))
    refine range_law2 (n := m) (gf := 30) (lb := #[.pointer (some ⟨cpb, 0, none⟩)]) rfl (enters_of Try.func30 (by kernel_rfl) rfl) (fun x : En × Int => #[.agg #[.string x.1.key, .string x.1.val, .bool x.1.gone], .int .i64 x.2]) (fun _ => rfl)
      (fun pre W' => AI W A A9 cp c9 l L e n bb (bb + 1) (bb + 1 + 1) sB nB (nB + 1) pre W' ∧ NE L n pre)
      (fun c pre W' => c = .exit 0 ∧ AI W A A9 cp c9 l L e n bb (bb + 1) (bb + 1 + 1) sB nB (nB + 1) pre W' ∧ (pre.length : Int) = n ∧ 1 ≤ pre.length ∧ pre.length ≤ L.length ∧ lastE pre = 0 ∧ Cst d W' (L.drop pre.length) e false)
      (AGd d L e) (fun A B => Fr (fun k => ¬ (d.foot k ∨ k = cpb)) A B)
      (fun pre W1 W2 h hf => ⟨keepT pre W1 W2 h.1 hf, h.2⟩)
      (fun c pre W1 W2 h hf => ⟨h.1, keepT pre W1 W2 h.2.1 hf, h.2.2.1, h.2.2.2.1, h.2.2.2.2.1, h.2.2.2.2.2.1, h.2.2.2.2.2.2.fr hd hf (fun k hk ht => by have := ht.1; have := hft8 k hk; omega)⟩)
      (fun pre x W1 W2 h hf => ⟨h.1, fun hp => (h.2 hp).fr hd hf (fun k hk ht => by have := ht.1; have := hft8 k hk; omega)⟩)
      (fun h k => h.trans k (fun _ _ h => h)) (fun W1 W2 h => h.mono (fun k _ ht hh => by
        have := ht.1
        rcases hh with hh | hh
        · have := hft8 k hh; omega
        · omega))
      (fun A B => Fr d.foot A B)
      (fun pre W1 W2 h hf => ⟨h.1.keep hf (fun h => by have := hlo5 _ h; omega) (fun h => by have := hlo5 _ h; omega) (fun h => by have := hlo5 _ h; omega) (fun h => by have := hlo5 _ h; omega) (fun h => by have := hhi5 _ h; omega) (fun h => by have := hhi5 _ h; omega) (fun ad h hh => by have := hA4 ad h; have := hlo5 _ hh; omega) (fun k hk h => by have := hlo5 _ h; omega), h.2⟩)
      (fun A B k o hf hk ho hcl => (hf.block k (Array.getElem?_eq_some_iff.1 ho).1 (fun h => by have := hft8 k h; omega)).trans ho)
      (fun xs => xs = seqT L e) (fun _ => True) (fun ll J Jx W' hW hJ hY h0 => hit ll J Jx W' hW hJ hY h0) ⟨hI8, fun j h1 h2 => by simp at h2; omega⟩ ?round ?done ?stop
    case round =>
      rintro ll pre x Wx ⟨hI, hNE⟩ hG
      clear hit hI8
      gi_wp2
      refine ⟨(Fr.refl _ _).alloc _, ?_⟩
      intro W4 hf4
      have gx := (Fr.refl (fun _ => False) Wx).alloc (.cells #[.string x.1.key, .string x.1.val, .bool x.1.gone] 32)
      have hX4 : Blk W4 Wx.heap.size [.string x.1.key, .string x.1.val, .bool x.1.gone] 32 := (Blk.at_new Wx [.string x.1.key, .string x.1.val, .bool x.1.gone] 32 _ _ rfl rfl).turn hf4
      have hI4 := keepT pre _ _ (keepT pre _ _ hI (turn_new gx)) hf4
      have hG4 : pre.length < L.length → Cst d W4 (L.drop (pre.length + 1)) e false := fun hp => ((hG.2 hp).new hd gx).fr hd hf4 (fun k hk ht => by have := ht.1; have := hft8 k hk; omega)
      have hxn : nB + 1 < Wx.heap.size := hI.last.lt
      obtain ⟨rest, hsp⟩ := hG.1
      clear hG gx hf4 hI
      generalize Wx.heap.size = xb at hX4 hxn ⊢
      have e0 := hI4.last.cell 0 rfl
      have ef := hI4.last.free 0
      have el := hI4.last.lt
      have n0 := hI4.num.cell 0 rfl
      have nf := hI4.num.free 0
      have nl := hI4.num.lt
      have s0 := hI4.lst.cell 0 rfl
      have l0 := hI4.lv.cell 0 rfl
      have x0 := hX4.cell 0 rfl
      have x1 := hX4.cell 1 rfl
      have x2 := hX4.cell 2 rfl
      have hfin : ∀ (x : En × Int) (V : World), Fr (fun k => k = nB + 1 ∨ k = nB) W4 V → Blk V nB [.int .i64 ((min (pre ++ [x]).length L.length : Nat) : Int)] 3 → Blk V (nB + 1) [.int .i64 x.2] 45 → Stay w8.heap.size W4 V ∧ Fr (fun k => ¬ (d.foot k ∨ k = cpb)) W4 V ∧ AI W A A9 cp c9 l L e n bb (bb + 1) (bb + 1 + 1) sB nB (nB + 1) (pre ++ [x]) V := fun x V g hn he => ⟨Stay.of_fr g (fun k hk => by
          rcases hk with rfl | rfl
          · exact ⟨_, _, _, hI4.last.out⟩
          · exact ⟨_, _, _, hI4.num.out⟩), g.mono (fun k _ hk hh => by
          rcases hh with hh | hh
          · have := hhi5 k hh; omega
          · omega), ⟨hI4.fr.trans g (fun i hi h => by omega), g.blk hI4.row (by omega), g.blk hI4.lv (by omega), g.blk hI4.res (by omega), g.blk hI4.lst (by omega), hI4.rd.fr g (fun ad h hh => by have := hA4 ad h; omega), hn, by rw [lastE_app]; exact he⟩⟩
      have Hfin := Lib.hid hfin
      have hnum4 := hI4.num
      have hlast4 := hI4.last
      clear hfin
      rcases seqT_split hsp with ⟨y, hy, rfl⟩ | ⟨hpl, he, rfl⟩
      · have hp := (List.getElem?_eq_some_iff.1 hy).1
        have hmin : min pre.length L.length = pre.length := by omega
        have hC4 := hG4 hp
        rw [hmin] at n0 hnum4
        simp only at x0 x1 x2 hX4 ⊢
        obtain ⟨ad9, rfl, y0, y1, y2⟩ := hI4.rd.cells hy
        have hadb : ad9.block < sB := hA4 ad9 rfl
        have gV : Fr (fun k => k = nB + 1) W4 (W4.setCell ⟨nB + 1, 0, none⟩ (.int .i64 0)) := (Fr.refl _ W4).set1 _ _
        have n1 := gV.cell n0 (by simp)
        have s1 := gV.cell s0 (by simp; omega)
        have l1 := gV.cell l0 (by simp; omega)
        have X1 := gV.blk hX4 (by omega)
        have x0 := X1.cell 0 rfl
        have x1 := X1.cell 1 rfl
        have x2 := X1.cell 2 rfl
        have y0 := gV.cell y0 (by simp only [add_block]; omega)
        have y1 := gV.cell y1 (by simp only [add_block]; omega)
        have y2 := gV.cell y2 (by simp only [add_block]; omega)
        have hnV := gV.blk hnum4 (by omega)
        have heV := hlast4.set 0 (.int .i64 0)
        have hq := neqEn y
        have ij : ((pre.length : Int)) < (L.length : Int) := by omega
        have ij0 : (0 : Int) ≤ (pre.length : Int) := by omega
        have hge : decide ((L.length : Int) ≤ (pre.length : Int)) = false := decide_eq_false (by omega)
        have hD := Lib.hid (And.intro gV (And.intro hnV (And.intro heV (And.intro hC4 hy))))
        clear gV hnV heV hC4 hy hsp hG4 hX4 X1 hI4 hnum4 hlast4
        gi_upto_region 14 with (fail)
        refine wpIn_region_round_drawn (by kernel_rfl) (by kernel_rfl) (by kernel_rfl) ?_
        repeat (quiet_step (fail))
        refine wpQuiet_nil ?_
        rintro W5 ⟨q, rfl⟩
        obtain ⟨gV, hnV, heV, hC4, hy⟩ := hD.out
        have gV' : Fr (fun k => k = nB + 1 ∨ k = nB) W4 ((((W4.setCell ⟨nB + 1, 0, none⟩ (.int .i64 0)).drewN q)).setCell ⟨nB, 0, none⟩ (.int .i64 ((pre.length : Int) + 1))) := ((gV.mono (fun _ _ h => .inl h)).drewN q).setCell _ _ (fun _ => .inr rfl)
        have hmin2 : min (pre ++ [(y, (0 : Int))]).length L.length = pre.length + 1 := by simp; omega
        have hF := Hfin.out (y, 0) _ gV' (by
          rw [hmin2]
          have := (hnV.drewN q).set 0 (.int .i64 ((pre.length : Int) + 1))
          simpa using this) ((heV.drewN q).other (by simp) _)
        have t1 : IntKind.i64.wrap ((pre.length : Int) + 1) = (pre.length : Int) + 1 := IntWalk.i64_in _ (by omega)
        have hnV2 := (hnV.drewN q).cell 0 rfl
        have hnVf := (hnV.drewN q).free 0
        have hnVl := (hnV.drewN q).lt
        have n3 := ((hnV.drewN q).set 0 (.int .i64 ((pre.length : Int) + 1))).cell 0 rfl
        have l3 := hF.2.2.lv.cell 0 rfl
        have HF := Lib.hid (And.intro hF (And.intro (show Cst d _ (L.drop (pre.length + 1)) e false from hC4.fr hd gV' (fun k hk hh => by have := hhi5 k hk; omega)) hmin2))
        clear hF gV gV' hnV heV hC4 hy hD s1 l1 x0 x1 x2 y0 y1 y2 s0 l0 n1 n0 hq hge
        by_cases hqn : (pre.length : Int) + 1 = n
        · subst hqn
          gi_wp2
          obtain ⟨⟨hSt, hKp, hAI⟩, hC, hmin2⟩ := HF.out
          have hl1 : (pre ++ [(y, (0 : Int))]).length = pre.length + 1 := by simp
          exact ⟨hSt, rfl, hAI, by rw [hl1]; omega, by rw [hl1]; omega, by rw [hl1]; omega, lastE_app _ _, by rw [hl1]; exact hC⟩
        · gi_wp2
          obtain ⟨⟨hSt, hKp, hAI⟩, hC, hmin2⟩ := HF.out
          refine ⟨hSt, hKp, hAI, fun j h1 h2 => ?_⟩
          rw [hmin2] at h2
          by_cases hj : j = pre.length + 1
          · subst hj; omega
          · exact hNE j h1 (by omega)
      · simp only [En.zero] at x0 x1 x2 hX4 ⊢
        have hmin : min pre.length L.length = L.length := by omega
        rw [hmin] at n0 hnum4
        have gV : Fr (fun k => k = nB + 1) W4 (W4.setCell ⟨nB + 1, 0, none⟩ (.int .i64 e)) := (Fr.refl _ W4).set1 _ _
        have n1 := gV.cell n0 (by simp)
        have s1 := gV.cell s0 (by simp; omega)
        have X1 := gV.blk hX4 (by omega)
        have x0 := X1.cell 0 rfl
        have x1 := X1.cell 1 rfl
        have x2 := X1.cell 2 rfl
        have hq := neqEn En.zero
        simp only [En.zero] at hq
        have hb1 : (e != 0) = true := by simpa using he
        have hb2 : (e == 0) = false := by simpa using he
        have hmin2 : min (pre ++ [(En.zero, e)]).length L.length = L.length := by simp; omega
        have hF := Hfin.out (En.zero, e) _ (gV.mono (fun _ _ h => .inl h)) (by rw [hmin2]; exact gV.blk hnum4 (by omega)) (hlast4.set 0 (.int .i64 e))
        have HF := Lib.hid (And.intro hF hmin2)
        clear hF gV hsp hG4 hX4 X1 hI4 hnum4 hlast4
        gi_wp2
        obtain ⟨⟨hSt, hKp, hAI⟩, hmin2⟩ := HF.out
        refine ⟨hSt, hKp, hAI, fun j h1 h2 => ?_⟩
        exact hNE j h1 (by have := Nat.le_trans h2 (Nat.min_le_right _ _); omega)
    case stop =>
      rintro D c pre Wd hD _ ⟨rfl, hI, hpn, h1, h2, hl0, hC⟩ hK
      clear hit hI8
      have hmin : min pre.length L.length = pre.length := by omega
      have hnum := hI.num
      have hlast := hI.last
      rw [hmin] at hnum
      rw [hl0] at hlast
      subst hpn
      have n0 := hnum.cell 0 rfl
      have l0 := hI.lv.cell 0 rfl
      have hnp : (0 : Int) < (pre.length : Int) := by omega
      have HI := Lib.hid (And.intro hI (And.intro hnum (And.intro hlast hC)))
      clear hI hnum hlast hC
      gi_upto_region 19 with (fail)
      obtain ⟨hI, hnum, hlast, hC⟩ := HI.out
      have n0 := hnum.drew.cell 0 rfl
      have e0 := hlast.drew.cell 0 rfl
      have s0 := hI.lst.drew.cell 0 rfl
      have b1 := hI.row.drew.cell 1 rfl
      have r0 := hI.res.drew
      have hsl := fun w => sl_drop3 A9 L.length c9 pre.length h2 hle9 w
      have hRd : RdE Wd.drew (dropA3 A9 c9 pre.length) (L.drop pre.length) := (hI.rd.drop c9 pre.length h2 hle9).drew
      have hdl : (L.drop pre.length).length = L.length - pre.length := List.length_drop
      have his := is_any (cp := c9 - pre.length) hd (hC.new hd ((Fr.refl _ Wd).drew)) hRd (fun ad h hh => by
        obtain ⟨ad0, h0, hbk⟩ := dropA3_block h
        have := hA4 ad0 h0
        have := hlo5 _ hh
        omega) (by rw [hdl]; omega)
      rw [hdl] at his
      have CM := Lib.hid his
      have hfw := hI.fr.drew
      have hKd : Wd.drew.heap[D]? = some (.deferred (some [])) := hK
      have hnr : ¬ d.foot (bb + 1 + 1) := fun h => by have := hlo5 _ h; omega
      clear his hI hnum hlast hC HI hRd
      refine wpIn_mono ?_ NoPanic.imp
      gi_region_with ((refine ⟨trivial, ND.out, (callsIn_wide.2 CM.out).mono ?_⟩; rintro en W8 ⟨rfl, hf8⟩; have r8 := hf8.blk r0 hnr; have rf8 := r8.free 0; have rl8 := r8.lt; have rc8 := r8.cell 0 rfl))
      all_goals (
        refine NoPanic.normal ?_
        have hK8 := (hf8.block D (Array.getElem?_eq_some_iff.1 hKd).1 (fun h => by have := hft8 _ h; omega)).trans hKd
        have hK' := (KeepsOthers.setCell W8 ⟨bb + 1 + 1, 0, none⟩ (.bool true)).same D _ hK8 rfl
        have g1 : Fr (fun _ => False) W (W8.setCell ⟨bb + 1 + 1, 0, none⟩ (.bool true)) := (hfw.trans hf8 (fun i hi h => by have := hlo5 _ h; omega)).setCell _ _ (fun h => by simp only at h; omega)
        have r9 := r8.set 0 (.bool true)
        gi_wp2
        generalize W8.setCell ⟨bb + 1 + 1, 0, none⟩ (.bool true) = W9 at hK' r9 g1 ⊢
        have ht : Fr (Turn w8.heap.size W9) W9 (W9.putObj D (.deferred none)) := turn_put _ hD hK' rfl
        have hc := (r9.turn ht).cell 0 rfl
        refine ⟨by simp, .inl ⟨_, _, rfl, run_takeDeferred hK', ?_⟩⟩
        exact ⟨.bool true, by simp [results, Try.results7, go_sem, hc], rfl, g1.turn ht hsz8⟩)
    case done =>
      rintro D xs Wd hD rfl ⟨hI, hNE⟩ hK
      clear hit hI8
      rw [show NE L n (seqT L e) = ∀ j : Nat, 1 ≤ j → j ≤ L.length → (j : Int) ≠ n by unfold NE; rw [seqT_min]] at hNE
      have hnum := hI.num
      have hlast := hI.last
      rw [seqT_min] at hnum
      rw [lastE_seqT] at hlast
      have n0 := hnum.cell 0 rfl
      have e0 := hlast.cell 0 rfl
      have l0 := hI.lv.cell 0 rfl
      have s0 := hI.lst.cell 0 rfl
      have b1 := hI.row.cell 1 rfl
      have r0 := hI.res.cell 0 rfl
      have rf := hI.res.free 0
      have rl := hI.res.lt
      have g1 : Fr (fun _ => False) W (Wd.setCell ⟨bb + 1 + 1, 0, none⟩ (.bool true)) := hI.fr.setCell _ _ (fun h => by simp only at h; omega)
      have r9 := hI.res.set 0 (.bool true)
      have hK' := (KeepsOthers.setCell Wd ⟨bb + 1 + 1, 0, none⟩ (.bool true)).same D _ hK rfl
      have HF := Lib.hid (And.intro g1 (And.intro r9 hK'))
      clear hI hnum hlast g1 r9 hK'
      by_cases hn : (L.length : Int) = n
      · have hz : L.length = 0 := by
          by_cases h : L.length = 0
          · exact h
          · exact absurd hn (hNE L.length (by omega) (Nat.le_refl _))
        have hnp : ¬ (0 : Int) < (L.length : Int) := by omega
        subst hn
        gi_wp2
        obtain ⟨g1, r9, hK'⟩ := HF.out
        generalize Wd.setCell ⟨bb + 1 + 1, 0, none⟩ (.bool true) = W9 at hK' r9 g1 ⊢
        have ht : Fr (Turn w8.heap.size W9) W9 (W9.putObj D (.deferred none)) := turn_put _ hD hK' rfl
        have hc := (r9.turn ht).cell 0 rfl
        refine ⟨by simp, .inl ⟨_, _, rfl, run_takeDeferred hK', ?_⟩⟩
        exact ⟨.bool true, by simp [results, Try.results7, go_sem, hc], rfl, g1.turn ht hsz8⟩
      · gi_wp2
        obtain ⟨g1, r9, hK'⟩ := HF.out
        generalize Wd.setCell ⟨bb + 1 + 1, 0, none⟩ (.bool true) = W9 at hK' r9 g1 ⊢
        have ht : Fr (Turn w8.heap.size W9) W9 (W9.putObj D (.deferred none)) := turn_put _ hD hK' rfl
        have hc := (r9.turn ht).cell 0 rfl
        refine ⟨by simp, .inl ⟨_, _, rfl, run_takeDeferred hK', ?_⟩⟩
        exact ⟨.bool true, by simp [results, Try.results7, go_sem, hc], rfl, g1.turn ht hsz8⟩
end Go.Proofs.Ytcpnjlnphjnhnaa

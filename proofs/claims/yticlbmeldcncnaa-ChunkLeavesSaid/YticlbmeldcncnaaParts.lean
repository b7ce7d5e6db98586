/- Parts and its iterator: which chunks it hands out. Conditions: those that each lemma names. -/
import Derived.Test.YticlbmeldcncnaaRange
import Derived.Test.YticlbmeldcncnaaAdd
import Derived.Test.YticlbmeldcncnaaConf
namespace Go.Proofs.Yticlbmeldcncnaa
open Go.RowKit Go.Shelf Ch
attribute [local go_sem] Oper.semAt_some
/-- Rows of chunks and of bytes stay as they are. -/
def Kp (W W' : World) : Prop := ∀ (k : Nat) (cs : Array Value) (t : TypeId), t = 24 ∨ t = 5 → W.heap[k]? = some (.cells cs t (0, 0)) → W'.heap[k]? = some (.cells cs t (0, 0))
theorem Kp.trans {A B C : World} (h : Kp A B) (k : Kp B C) : Kp A C := fun i cs t ht hc => k i cs t ht (h i cs t ht hc)
theorem Kp.refl (A : World) : Kp A A := fun _ _ _ _ h => h
theorem Kp.turn {B : Nat} (W W' : World) (h : Fr (Turn B W) W W') : Kp W W' := fun _ _ _ _ hc => turn_cells h hc
theorem Kp.fr {S : Nat → Prop} {W W' : World} (h : Fr S W W') (hS : ∀ k, S k → ∀ (cs : Array Value) (t : TypeId), W.heap[k]? = some (.cells cs t (0, 0)) → t ≠ 24 ∧ t ≠ 5) : Kp W W' := fun k cs t ht hc =>
  (h.block k (Array.getElem?_eq_some_iff.1 hc).1 (fun hs => by have := hS k hs cs t hc; rcases ht with rfl | rfl; exact this.1 rfl; exact this.2 rfl)).trans hc
theorem Row.kp {W W' : World} {e : TypeId} {v : Value} {xs : List Value} (h : Row W e v xs) (hk : Kp W W') (he : e = 24 ∨ e = 5) : Row W' e v xs := by
  refine ⟨h.1, ?_⟩
  rcases h.2 with hn | ⟨g, cap, cur, rfl, hb, hgg, rest⟩
  · exact .inl hn
  · exact .inr ⟨g, cap, cur, rfl, hb, hk g cur e he hgg, rest⟩
theorem Chs.kp {W W' : World} {vs : List Value} {css : List (List Int)} (h : Chs W vs css) (hk : Kp W W') : Chs W' vs css :=
  ⟨h.1, fun i v hv => by
    obtain ⟨cs, h1, h2⟩ := h.2 i v hv
    exact ⟨cs, h1, h2.kp hk (.inr rfl)⟩⟩
/-- A chunk as it is handed out: where it begins, its slice, its bytes. -/
structure Ck where
  at_ : Int
  v : Value
  cs : List Int
def total (css : List (List Int)) : Int := (css.map fun c => (c.length : Int)).sum
def ne (css : List (List Int)) : List (List Int) := css.filter fun c => decide (0 < c.length)
def Ch.St.parts (s : St) : List (List Int) := ne (s.out ++ [s.o])
def Gd (parts : List (List Int)) (pre : List Ck) (x : Ck) (W : World) : Prop :=
  Row W 5 x.v (u8s x.cs) ∧ x.at_ = total (pre.map Ck.cs) ∧ 0 < x.cs.length ∧ (pre ++ [x]).map Ck.cs <+: parts
theorem total_snoc (l : List (List Int)) (c : List Int) : total (l ++ [c]) = total l + c.length := by simp [total]
theorem ne_snoc (l : List (List Int)) (c : List Int) : ne (l ++ [c]) = if 0 < c.length then ne l ++ [c] else ne l := by
  unfold ne
  rw [List.filter_append]
  by_cases h : 0 < c.length <;> simp [h]
theorem ne_take (l : List (List Int)) (k : Nat) : ne (l.take k) <+: ne l := by
  conv => rhs; rw [← List.take_append_drop k l]
  unfold ne
  rw [List.filter_append]
  exact List.prefix_append _ _
theorem total_ne (l : List (List Int)) : total (ne l) = total l := by
  induction l with
  | nil => rfl
  | cons c l ih =>
    unfold ne at ih ⊢
    by_cases h : 0 < c.length
    · simp only [List.filter_cons, h, decide_true, if_true]
      unfold total at ih ⊢
      simp only [List.map_cons, List.sum_cons]
      rw [ih]
    · simp only [List.filter_cons, h, decide_false]
      unfold total at ih ⊢
      simp only [List.map_cons, List.sum_cons, Bool.false_eq_true, if_false]
      rw [ih]
      omega
theorem total_flat (l : List (List Int)) : total l = l.flatten.length := by
  induction l with
  | nil => rfl
  | cons c l ih =>
    unfold total at ih ⊢
    simp only [List.map_cons, List.sum_cons, List.flatten_cons, List.length_append]
    rw [ih]
    omega
theorem total_take (l : List (List Int)) (k : Nat) : 0 ≤ total (l.take k) ∧ total (l.take k) ≤ total l := by
  have h : total l = total (l.take k) + total (l.drop k) := by
    rw [total_flat, total_flat, total_flat]
    conv => lhs; rw [← List.take_append_drop k l]
    rw [List.flatten_append, List.length_append]
    omega
  rw [total_flat, total_flat] at *
  rw [total_flat] at h
  omega
theorem ne_flat (l : List (List Int)) : (ne l).flatten = l.flatten := by
  induction l with
  | nil => rfl
  | cons c l ih =>
    unfold ne at ih ⊢
    by_cases h : 0 < c.length
    · simp only [List.filter_cons, h, decide_true, if_true, List.flatten_cons, ih]
    · have : c = [] := List.eq_nil_of_length_eq_zero (by omega)
      subst this
      simp only [List.filter_cons, List.length_nil, Nat.lt_irrefl, decide_false, Bool.false_eq_true, if_false, List.flatten_cons, List.nil_append, ih]
theorem parts_flat (c : Cf) (bs : List Int) : (St.run c ⟨[], [], []⟩ bs).parts.flatten = bs := by
  unfold Ch.St.parts
  rw [ne_flat, List.flatten_append, List.flatten_singleton, St.run_flat]
  simp
/-- Each chunk has a byte at least, Most at most; each but the last Least at least. -/
theorem parts_bounds (c : Cf) (hc : c.ok) (bs : List Int) :
    (∀ x ∈ (St.run c ⟨[], [], []⟩ bs).parts, 0 < x.length ∧ (x.length : Int) ≤ c.most) ∧ ∀ l r x, (St.run c ⟨[], [], []⟩ bs).parts = l ++ x :: r → r ≠ [] → c.least ≤ (x.length : Int) := by
  obtain ⟨h1, _, _, h4, _⟩ := hc
  obtain ⟨hb1, hb2⟩ := St.run_bounds c h4 bs ⟨[], [], []⟩ (by simp) (by simp only [List.length_nil, Int.natCast_zero]; omega)
  generalize St.run c ⟨[], [], []⟩ bs = s at hb1 hb2
  have hout : ne s.out = s.out := by
    unfold ne
    rw [List.filter_eq_self]
    intro x hx
    have := (hb1 x hx).1
    simp only [decide_eq_true_eq]
    omega
  have hp : s.parts = s.out ++ (if 0 < s.o.length then [s.o] else []) := by
    unfold Ch.St.parts
    rw [ne_snoc, hout]
    split <;> simp
  constructor
  · intro x hx
    unfold Ch.St.parts ne at hx
    have hx2 := (List.mem_filter.1 hx).2
    have hx1 := (List.mem_filter.1 hx).1
    simp only [decide_eq_true_eq] at hx2
    refine ⟨hx2, ?_⟩
    simp only [List.mem_append, List.mem_singleton] at hx1
    rcases hx1 with h | rfl
    · exact (hb1 x h).2
    · omega
  · intro l r x hx hr
    rw [hp] at hx
    have hmem : x ∈ s.out := by
      rcases List.append_eq_append_iff.1 hx with ⟨a, e1, e2⟩ | ⟨a, e1, e2⟩
      · exfalso
        split at e2
        · rcases a with _ | ⟨y, a⟩
          · simp only [List.nil_append] at e2
            injection e2 with _ e3
            exact hr e3.symm
          · injection e2 with _ e3
            rcases a with _ | ⟨z, a⟩ <;> simp at e3
        · rcases a with _ | ⟨y, a⟩ <;> simp at e2
      · rcases a with _ | ⟨y, a⟩
        · exfalso
          simp only [List.nil_append] at e2
          split at e2
          · injection e2 with _ e3
            exact hr e3
          · cases e2
        · injection e2 with e3 _
          rw [e1, e3]
          simp
    exact (hb1 x hmem).1
theorem parts_any (c0 c1 c2 c3 c4 c5 c6 c7 c8 c9 c10 c11 : Int) (A : Option Addr) (n cp : Nat) (w : World) :
    Calls Try.prog 18 #[.agg #[.int .i64 c0, .int .i64 c1, .int .i64 c2, .int .i64 c3, .int .i64 c4, .int .i64 c5, .int .i64 c6, .int .i64 c7, .int .i64 c8, .int .i64 c9, .int .i64 c10, .int .i64 c11], .slice A n cp] w fun e w' => e = .returned (.func (.func 22) #[] #[.pointer (some ⟨w.heap.size, 0, none⟩), .pointer (some ⟨w.heap.size + 1, 0, none⟩)]) ∧
      (w.alloc (.cells #[.int .i64 c0, .int .i64 c1, .int .i64 c2, .int .i64 c3, .int .i64 c4, .int .i64 c5, .int .i64 c6, .int .i64 c7, .int .i64 c8, .int .i64 c9, .int .i64 c10, .int .i64 c11] 23)).alloc (.cells #[.slice A n cp] 24) = w' := by
  have hmf : ∀ (fn : Fn) (first cap : Array Value) (w : World), (Instr.makeFunc fn first cap).run Try.prog w = .ok (.func fn first cap) w := fun _ _ _ _ => rfl
  go_enter Try.func18, Try.ntmps18
  go_wp2
  go_ret
  exact ⟨rfl, rfl⟩
set_option maxHeartbeats 1000000 in
set_option maxRecDepth 100000 in
theorem parts_iter {m : Nat} (c0 c1 c2 c3 c4 c5 c6 c7 c8 c9 c10 c11 : Int) (h1 : 1 ≤ c8) (h2 : 1 ≤ c9) (h3 : c9 ≤ 65536) (h4 : c8 ≤ c10) (h5 : c10 ≤ 4096) (cB dB : Nat) (A : Option Addr) (n cp : Nat) (bs : List Int) (w : World)
    (hcB : Blk w cB (i64s [c0, c1, c2, c3, c4, c5, c6, c7, c8, c9, c10, c11]) 23) (hdB : Blk w dB [.slice A n cp] 24) (hD : RdB w A n bs) (hn : n ≤ 1000000)
    (l : Nat) (J Jx : List Ck → World → Prop) (W : World) (hW : Fr (fun _ => False) w W) (hJ : ∀ s A B, J s A → Fr (fun _ => False) A B → J s B)
    (hY : ∀ pre x W1, J pre W1 → Gd (St.run ⟨c8, c9, c10⟩ ⟨[], [], []⟩ bs).parts pre x W1 → YieldAt Fence.wide (m - 1) Try.prog l #[.int .i64 x.at_, x.v] W1 fun e W' => (e = .returned (.bool true) ∧ J (pre ++ [x]) W' ∧ Kp W1 W') ∨ (e = .returned (.bool false) ∧ Jx (pre ++ [x]) W'))
    (h0 : J [] W) :
    CallsIn Fence.wide (m - 1) Try.prog 22 (#[.func (.yield l) #[] #[]] ++ #[.pointer (some ⟨cB, 0, none⟩), .pointer (some ⟨dB, 0, none⟩)]) W fun e W' => (∃ v, e = .returned v) ∧
      ((∃ xs : List Ck, xs.map Ck.cs = (St.run ⟨c8, c9, c10⟩ ⟨[], [], []⟩ bs).parts ∧ J xs W') ∨ (∃ pre : List Ck, pre.map Ck.cs <+: (St.run ⟨c8, c9, c10⟩ ⟨[], [], []⟩ bs).parts ∧ Jx pre W')) := by
  have hcW := hW.blk hcB id
  have hdW := hW.blk hdB id
  have hDW : RdB W A n bs := hD.fr hW (fun _ _ => id)
  have e0 : W.cell? ⟨cB, 0, none⟩ = some (.int .i64 c0) := hcW.cell 0 rfl
  have e1 : W.cell? ⟨cB, 1, none⟩ = some (.int .i64 c1) := hcW.cell 1 rfl
  have e2 : W.cell? ⟨cB, 2, none⟩ = some (.int .i64 c2) := hcW.cell 2 rfl
  have e3 : W.cell? ⟨cB, 3, none⟩ = some (.int .i64 c3) := hcW.cell 3 rfl
  have e4 : W.cell? ⟨cB, 4, none⟩ = some (.int .i64 c4) := hcW.cell 4 rfl
  have e5 : W.cell? ⟨cB, 5, none⟩ = some (.int .i64 c5) := hcW.cell 5 rfl
  have e6 : W.cell? ⟨cB, 6, none⟩ = some (.int .i64 c6) := hcW.cell 6 rfl
  have e7 : W.cell? ⟨cB, 7, none⟩ = some (.int .i64 c7) := hcW.cell 7 rfl
  have e8 : W.cell? ⟨cB, 8, none⟩ = some (.int .i64 c8) := hcW.cell 8 rfl
  have e9 : W.cell? ⟨cB, 9, none⟩ = some (.int .i64 c9) := hcW.cell 9 rfl
  have e10 : W.cell? ⟨cB, 10, none⟩ = some (.int .i64 c10) := hcW.cell 10 rfl
  have e11 : W.cell? ⟨cB, 11, none⟩ = some (.int .i64 c11) := hcW.cell 11 rfl
  obtain ⟨s, hs⟩ : ∃ s, s = St.run ⟨c8, c9, c10⟩ ⟨[], [], []⟩ bs := ⟨_, rfl⟩
  rw [← hs] at hY ⊢
  have hso : s.out.length ≤ 1000000 ∧ s.o.length ≤ 1000000 := by
    have e1 := St.run_out ⟨c8, c9, c10⟩ bs ⟨[], [], []⟩
    have e2 := St.run_o ⟨c8, c9, c10⟩ bs ⟨[], [], []⟩
    rw [← hs, hD.1] at e1 e2
    simp only [List.length_nil] at e1 e2
    omega
  have Hs := Lib.hid hs
  clear hs
  refine callsIn_of_wp Try.func22 rfl trivial ?_ rfl
  simp only [Try.ntmps22, List.size_toArray, List.length_cons, List.length_nil, Nat.reduceAdd, Nat.reduceSub, Array.replicate_succ, Array.replicate_zero, List.push_toArray, List.append_toArray, List.nil_append, List.cons_append]
  have nd : Fence.wide.depth.isSome = true → 1 ≤ m - 1 := fun h => by simp [Fence.wide] at h
  have ND := Lib.hid nd
  clear nd
  gi_wp2_with (fail)
  refine ⟨trivial, ND.out, (callsIn_wide.2 (new_ok c0 c1 c2 c3 c4 c5 c6 c7 c8 c9 c10 c11 W h1 h2 h3 h4 h5)).mono ?_⟩
  rintro e W1 ⟨kb, rfl, hC1, hf1, hkb⟩
  clear e0 e1 e2 e3 e4 e5 e6 e7 e8 e9 e10 e11
  have hdW1 := (hf1.blk hdW id).cell 0 rfl
  have hDW1 : RdB W1 A n bs := hDW.fr hf1 (fun _ _ => id)
  gi_wp2_with (fail)
  refine ⟨trivial, ND.out, (callsIn_wide.2 (add_any kb [c0, c1, c2, c3, c4, c5, c6, c7, c8, c9, c10, c11] ⟨c8, c9, c10⟩ rfl rfl rfl ⟨h1, h2, h3, h4, h5⟩ [] [] (.slice none 0 0) A n cp bs W1 hC1 (Row.nil _ _) hDW1 ?_ hn (by simp) (by simp))).mono ?_⟩
  · intro hn0 ad hA
    have := hDW.lt hn0 hA
    exact ⟨by omega, by simp [Value.ownBlock]⟩
  rintro e W2 ⟨v, ov, vs, rfl, hI⟩
  rw [← Hs.out] at hI
  obtain ⟨oA, oc, hov⟩ := hI.opn.slice
  rw [u8s_len] at hov
  subst hov
  gi_wp2_with (fail)
  refine ⟨trivial, ND.out, (callsIn_wide.2 (end_any kb [c0, c1, c2, c3, c4, c5, c6, c7, c8, c9, c10, c11] _ _ W2 hI.cut)).mono ?_⟩
  rintro e W3 ⟨rfl, hC3, hf3⟩
  have hR3 : Row W3 24 v vs := hI.out.fr hf3 (fun q hq e => by subst e; exact hI.cut.ne hI.out (by decide) hq)
  have hX3 : Row W3 5 (.slice oA s.o.length oc) (u8s s.o) := hI.opn.fr hf3 (fun q hq e => by subst e; exact hI.cut.ne hI.opn (by decide) hq)
  have hV3 : Chs W3 vs s.out := hI.rows.fr hf3 (fun u hu q hq e => (hI.ne u hu q hq).1 e)
  have hvl : vs.length ≤ 1000000 := by rw [hI.rows.1]; exact hso.1
  gi_wp2_with (gi_at_builtin; go_must (refine app1In rfl _ _ 39 24 (.slice none 0 0) 24 rfl Try.underlying39 info24 rfl (by decide) v vs (.slice oA s.o.length oc) rfl rfl rfl hR3 (by omega) ?_); intro g2 c2 W4 hR4 hor4 hf4 _)
  have hV4 : Chs W4 (vs ++ [.slice oA s.o.length oc]) (s.out ++ [s.o]) := (hV3.snoc hX3).fr hf4 (fun u hu q hq e => by
    rcases List.mem_append.1 hu with hu | hu
    · exact (hI.ne u hu q hq).2.2.1 e
    · have := List.mem_singleton.1 hu
      subst this
      exact hI.opn.ne_row hI.out (by decide) q hq e)
  have hJ4 : J [] W4 := hJ _ _ _ h0 (by
    have f12 : Fr (fun _ => False) W W2 := hf1.trans hI.fr (fun i hi h => by
      rcases h with rfl | h
      · omega
      · simp [Value.ownBlock] at h)
    have f13 : Fr (fun _ => False) W W3 := f12.trans hf3 (fun i hi h => by subst h; omega)
    exact f13.trans hf4 (fun i hi h => by
      have := hI.newOut i h
      have := hf1.size
      omega))
  have htot : total (s.out ++ [s.o]) ≤ 1000000 := by
    rw [total_flat, List.flatten_append, List.flatten_singleton, Hs.out, St.run_flat]
    simp only [List.flatten_nil, List.nil_append]
    rw [hD.1]
    omega
  have hvl2 : (vs ++ [Value.slice oA s.o.length oc]).length = vs.length + 1 := by simp
  have Hvl2 := Lib.hid hvl2
  have hal : (s.out ++ [s.o]).length = vs.length + 1 := by simp [hI.rows.1]
  have Hal := Lib.hid hal
  have hpp : s.parts = ne (s.out ++ [s.o]) := rfl
  rw [hpp] at hY
  have Hpp := Lib.hid hpp
  clear hpp hvl2 hal hC1 hdW1 hDW1 hI hC3 hf3 hR3 hX3 hV3 hor4 hf4 hf1 hkb hso hcW hdW hDW h0 hcB hdB hD
  generalize hvals : vs ++ [Value.slice oA s.o.length oc] = vals at hR4 hV4 Hvl2
  generalize hall : s.out ++ [s.o] = all at hV4 htot Hal hY Hpp
  clear hvals hall
  gi_loopw [6, 24] (fun at_ i wr => ∃ (k : Nat) (pre : List Ck), k ≤ vs.length + 1 ∧ i = .int .i64 k ∧ at_ = .int .i64 (total (all.take k)) ∧ pre.map Ck.cs = ne (all.take k) ∧ J pre wr ∧ Row wr 24 (.slice (some ⟨g2, 0, none⟩) (vs.length + 1) c2) vals ∧ Chs wr vals all) (fun _ i _ => (vs.length + 1) - (intOf i).toNat)
  case atStart => exact ⟨0, [], Nat.zero_le _, rfl, rfl, rfl, hJ4, hR4, hV4⟩
  case round =>
    obtain ⟨k, pre, hk, rfl, rfl, hpre, hJk, hRk, hVk⟩ := hrel
    have Hpre := Lib.hid hpre
    clear hpre
    by_cases hlt : k < vs.length + 1
    · have hku : vals[k]? = some (vals[k]'(by rw [Hvl2.out]; exact hlt)) := List.getElem?_eq_getElem _
      obtain ⟨cs, hcs, hRu⟩ := hVk.2 k _ hku
      have hcell := hRk.cell k hku
      generalize vals[k]'(by rw [Hvl2.out]; exact hlt) = u at hku hRu hcell
      obtain ⟨uA, uc, hu⟩ := hRu.slice
      rw [u8s_len] at hu
      subst hu
      have htk : Hid (all.take (k + 1) = all.take k ++ [cs]) := by
        unfold Hid
        rw [List.take_add_one, hcs]
        rfl
      have ht1 := total_take all k
      have ht2 := total_take all (k + 1)
      rw [htk.out, total_snoc] at ht2
      have hne1 : Hid (ne (all.take (k + 1)) = if 0 < cs.length then ne (all.take k) ++ [cs] else ne (all.take k)) := by
        unfold Hid
        rw [htk.out, ne_snoc]
      have htt : Hid (total (all.take (k + 1)) = total (all.take k) + cs.length) := by
        unfold Hid
        rw [htk.out, total_snoc]
      have hgt : total (all.take k) = total (pre.map Ck.cs) := by rw [Hpre.out, total_ne]
      have Hgt := Lib.hid hgt
      clear hgt hku
      have hpx : ne (all.take (k + 1)) <+: ne all := ne_take _ _
      have Hpx := Lib.hid hpx
      clear hpx hcs
      generalize total (all.take k) = T at ht1 ht2 htt Hgt ⊢
      by_cases hp : 0 < cs.length
      · have hgd : Gd (ne all) pre ⟨T, .slice uA cs.length uc, cs⟩ wr := by
          refine ⟨hRu, Hgt.out, hp, ?_⟩
          rw [List.map_append, Hpre.out]
          have := Hpx.out
          rw [hne1.out, if_pos hp] at this
          exact this
        obtain ⟨fn, tmps, assign, body, hy, hR⟩ := hY pre ⟨T, .slice uA cs.length uc, cs⟩ wr hJk hgd
        dsimp only at hy
        gi_wp2
        refine ⟨ND.out, (roundIn_any hR).mono ?_⟩
        rintro e W5 (⟨rfl, hJ5, hk5⟩ | ⟨rfl, hJx5⟩)
        · have hR5 := hRk.kp hk5 (.inl rfl)
          have hV5 := hVk.kp hk5
          gi_wp2
          go_roundw
          case rel =>
            refine ⟨k + 1, pre ++ [⟨T, .slice uA cs.length uc, cs⟩], by omega, by go_num, by rw [htt.out], ?_, hJ5, hR5, hV5⟩
            rw [List.map_append, Hpre.out, hne1.out, if_pos hp]
            rfl
          case measure => simp [intOf]; omega
        · gi_wp2
          refine bodyPost_ret (results_none rfl _ _ _) rfl ?_
          refine ⟨⟨_, rfl⟩, .inr ⟨pre ++ [⟨T, .slice uA cs.length uc, cs⟩], ?_, hJx5⟩⟩
          rw [Hpp.out]
          exact hgd.2.2.2
      · gi_wp2
        refine ⟨fun f h => (by cases h), ?_⟩
        gi_wp2
        go_roundw
        case rel =>
          refine ⟨k + 1, pre, by omega, by go_num, by rw [htt.out], ?_, hJk, hRk, hVk⟩
          rw [Hpre.out, hne1.out, if_neg hp]
        case measure => simp [intOf]; omega
    · obtain rfl : k = vs.length + 1 := by omega
      gi_wp2
      go_end0
      refine ⟨⟨_, rfl⟩, .inl ⟨pre, ?_, hJk⟩⟩
      rw [Hpp.out, Hpre.out, List.take_of_length_le (by rw [Hal.out]; exact Nat.le_refl _)]
end Go.Proofs.Yticlbmeldcncnaa

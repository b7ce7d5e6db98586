/- next: what a task does next. Conditions: those of the lemmas. -/
import Derived.Test.YtlljfopacdnpbaaDoW
namespace Go.Proofs.Ytlljfopacdnpbaa
open Go.RowKit
theorem insV_five (l : List Ins) : ∀ y ∈ l.map insV, y.length = 5 := fun y hy => by obtain ⟨p, _, rfl⟩ := List.mem_map.1 hy; rfl
theorem add_k (a : Addr) (k : Nat) (h : k ≠ 0) : a.add k = ⟨a.block, a.off + k, none⟩ := by unfold Addr.add; rw [if_neg h]
def insR (l : List Ins) : List Value := (l.map insV).flatten
theorem ins_cells {W : World} {A : Option Addr} {l : List Ins} (h : Rd W A (insR l)) {i : Nat} {x : Ins} (hi : l[i]? = some x) :
    ∃ ad, A = some ad ∧ W.cell? (ad.add (i * 5)) = some (.int .i64 x.kind) ∧ W.cell? ⟨(ad.add (i * 5)).block, (ad.add (i * 5)).off + 1, none⟩ = some (.int .i64 x.cell) ∧ W.cell? ⟨(ad.add (i * 5)).block, (ad.add (i * 5)).off + 2, none⟩ = some (.int .i64 x.n) ∧
      W.cell? ⟨(ad.add (i * 5)).block, (ad.add (i * 5)).off + 3, none⟩ = some (.int .i64 x.mutex) ∧ W.cell? ⟨(ad.add (i * 5)).block, (ad.add (i * 5)).off + 4, none⟩ = some (.int .i64 x.free) := by
  have g : ∀ (j : Nat) (v : Value), (insV x)[j]? = some v → ∃ ad, A = some ad ∧ W.cell? ((ad.add (i * 5)).add j) = some v := by
    intro j v hv
    have hj5 : j < 5 := by
      have := (List.getElem?_eq_some_iff.1 hv).1
      simpa [insV] using this
    obtain ⟨ad, e, hc⟩ := h (i * 5 + j) v (by
      unfold insR
      rw [flat_at _ (insV_five l) i j (insV x) (by rw [List.getElem?_map, hi]; rfl) hj5]
      exact hv)
    exact ⟨ad, e, by rw [add_add]; exact hc⟩
  obtain ⟨ad, rfl, h0⟩ := g 0 _ rfl
  obtain ⟨_, e1, h1⟩ := g 1 _ rfl
  obtain ⟨_, e2, h2⟩ := g 2 _ rfl
  obtain ⟨_, e3, h3⟩ := g 3 _ rfl
  obtain ⟨_, e4, h4⟩ := g 4 _ rfl
  cases e1
  cases e2
  cases e3
  cases e4
  refine ⟨ad, rfl, ?_, ?_, ?_, ?_, ?_⟩
  · rw [show (ad.add (i * 5)).add 0 = ad.add (i * 5) from by rw [add_add, Nat.add_zero]] at h0; exact h0
  · rw [add_k _ 1 (by decide)] at h1; exact h1
  · rw [add_k _ 2 (by decide)] at h2; exact h2
  · rw [add_k _ 3 (by decide)] at h3; exact h3
  · rw [add_k _ 4 (by decide)] at h4; exact h4
/-! ### A task -/
def ptr (b : Nat) : Value := .pointer (some ⟨b, 0, none⟩)
def onV (E : Env) (x : Ins) : Value := if 0 < x.mutex then ptr (E.m (x.mutex.toNat - 1)) else .pointer none
def nextV (E : Env) (l : List Ins) (at_ n : Nat) : TV := match l[at_]? with
  | some x => (.func (.func 41) #[] #[ptr n, ptr (n + 4), ptr (n + 1), ptr (n + 2)], onV E x)
  | none => (.nilFunc, .pointer none)
structure Tk (W : World) (wb : Nat) (A : Option Addr) (cp : Nat) (l : List Ins) (at_ n : Nat) : Prop where
  b1 : Blk W n [ptr wb] 25
  b3 : Blk W (n + 1) [.slice A l.length cp] 67
  b4 : Blk W (n + 2) [.int .i64 (at_ : Int)] 3
  b2 : ∀ x, l[at_]? = some x → Blk W (n + 4) (insV x) 73
theorem Tk.fr {S : Nat → Prop} {W W' : World} {wb : Nat} {A : Option Addr} {cp : Nat} {l : List Ins} {at_ n : Nat} (h : Tk W wb A cp l at_ n) (hf : Fr S W W') (hS : ∀ q, n ≤ q → q < n + 5 → ¬ S q) : Tk W' wb A cp l at_ n :=
  ⟨hf.blk h.b1 (hS _ (by omega) (by omega)), hf.blk h.b3 (hS _ (by omega) (by omega)), hf.blk h.b4 (hS _ (by omega) (by omega)), fun x hx => hf.blk (h.b2 x hx) (hS _ (by omega) (by omega))⟩
set_option maxHeartbeats 1000000 in
theorem next_end {W : World} (wb : Nat) (A : Option Addr) (m cp at_ : Nat) (h : m ≤ at_) : Calls Try.prog 40 #[.pointer (some ⟨wb, 0, none⟩), .slice A m cp, .int .i64 (at_ : Int)] W fun e w' => e = .returned (.agg #[.nilFunc, .pointer none]) ∧ Fr (fun _ => False) W w' := by
  have i0 : (m : Int) ≤ (at_ : Int) := by omega
  go_enter Try.func40, Try.ntmps40
  go_wp2
  refine bodyPost_ret (results_cell_row rfl _ _ (W.heap.size + 1 + 1 + 1) 53 #[.nilFunc, .pointer none] (0, 0) _ rfl (Blk.at_new _ _ _ _ _ (by simp) rfl) Try.underlying53 rfl (by kernel_rfl)) rfl ?_
  exact ⟨rfl, ((((Fr.refl _ W).alloc _).alloc _).alloc _).alloc _⟩
set_option maxHeartbeats 2000000 in
set_option maxRecDepth 100000 in
theorem next_some {W : World} {wb ma mc : Nat} (ms : Nat → Nat) (hob : W.cell? ⟨wb, 1, none⟩ = some (.slice (some ⟨ma, 0, none⟩) 4 mc)) (hms : ∀ k, k < 4 → W.cell? ⟨ma, k, none⟩ = some (ptr (ms k)))
    (A : Option Addr) (cp : Nat) (l : List Ins) (hR : Rd W A (insR l)) (at_ : Nat) (x : Ins) (hx : l[at_]? = some x) (hok : x.ok) (hmx : at_ < 9223372036854775807) :
    Calls Try.prog 40 #[.pointer (some ⟨wb, 0, none⟩), .slice A l.length cp, .int .i64 (at_ : Int)] W fun e w' => e = .returned (.agg #[.func (.func 41) #[] #[ptr W.heap.size, ptr (W.heap.size + 4), ptr (W.heap.size + 1), ptr (W.heap.size + 2)], if 0 < x.mutex then ptr (ms (x.mutex.toNat - 1)) else .pointer none]) ∧ Fr (fun _ => False) W w' ∧ Tk w' wb A cp l at_ W.heap.size := by
  have hmf : ∀ (fn : Fn) (first cap : Array Value) (w : World), (Instr.makeFunc fn first cap).run Try.prog w = .ok (.func fn first cap) w := fun _ _ _ _ => rfl
  have hlt := (List.getElem?_eq_some_iff.1 hx).1
  have i0 : ¬ ((l.length : Int) ≤ (at_ : Int)) := by omega
  have i1 : (0 : Int) ≤ (at_ : Int) := by omega
  have i2 : (at_ : Int) < (l.length : Int) := by omega
  obtain ⟨ad, rfl, c0, c1, c2, c3, c4⟩ := ins_cells hR hx
  have HR := Lib.hid (And.intro hR hx)
  obtain ⟨kind, cell, n, mutex, free⟩ := x
  simp only at c0 c1 c2 c3 c4
  clear hR hx
  go_enter Try.func40, Try.ntmps40
  go_upto_region 3 with fail
  obtain ⟨w4, hw4⟩ : ∃ w4, (((W.alloc (.cells #[.pointer (some ⟨wb, 0, none⟩)] 25)).alloc (.cells #[.slice (some ad) l.length cp] 67)).alloc (.cells #[.int .i64 (at_ : Int)] 3)).alloc (.cells #[.nilFunc, .pointer none] 53) = w4 := ⟨_, rfl⟩
  have f4 : Fr (fun _ => False) W w4 := by rw [← hw4]; exact ((((Fr.refl _ W).alloc _).alloc _).alloc _).alloc _
  have q1 : Blk w4 W.heap.size [.pointer (some ⟨wb, 0, none⟩)] 25 := by rw [← hw4]; exact (((Blk.at_new W _ 25 _ _ rfl rfl).alloc _).alloc _).alloc _
  have q2 : Blk w4 (W.heap.size + 1) [.slice (some ad) l.length cp] 67 := by rw [← hw4]; exact ((Blk.at_new _ _ 67 _ _ (by simp) rfl).alloc _).alloc _
  have q3 : Blk w4 (W.heap.size + 1 + 1) [.int .i64 (at_ : Int)] 3 := by rw [← hw4]; exact (Blk.at_new _ _ 3 _ _ (by simp) rfl).alloc _
  have q4 : Blk w4 (W.heap.size + 1 + 1 + 1) [.nilFunc, .pointer none] 53 := by rw [← hw4]; exact Blk.at_new _ _ 53 _ _ (by simp) rfl
  have z4 : w4.heap.size = W.heap.size + 1 + 1 + 1 + 1 := by rw [← hw4]; simp
  rw [hw4]
  have d0 := f4.cell c0 id
  have d1 := f4.cell c1 id
  have d2 := f4.cell c2 id
  have d3 := f4.cell c3 id
  have d4 := f4.cell c4 id
  have e1 := q2.cell 0 rfl
  have e2 := q3.cell 0 rfl
  clear hw4 c0 c1 c2 c3 c4
  generalize hn : W.heap.size = nb at q1 q2 q3 q4 z4 e1 e2 ⊢
  have Hn := Lib.hid hn
  clear hn
  go_upto_region 4 with fail
  have f5 : Fr (fun _ => False) w4 (w4.alloc (.cells #[.int .i64 kind, .int .i64 cell, .int .i64 n, .int .i64 mutex, .int .i64 free] 73)) := (Fr.refl _ w4).alloc _
  have q5 : Blk (w4.alloc (.cells #[.int .i64 kind, .int .i64 cell, .int .i64 n, .int .i64 mutex, .int .i64 free] 73)) (nb + 1 + 1 + 1 + 1) [.int .i64 kind, .int .i64 cell, .int .i64 n, .int .i64 mutex, .int .i64 free] 73 := Blk.at_new _ _ _ _ _ z4.symm rfl
  have z5 : (w4.alloc (.cells #[.int .i64 kind, .int .i64 cell, .int .i64 n, .int .i64 mutex, .int .i64 free] 73)).heap.size = nb + 1 + 1 + 1 + 1 + 1 := by simp [z4]
  generalize w4.alloc (.cells #[.int .i64 kind, .int .i64 cell, .int .i64 n, .int .i64 mutex, .int .i64 free] 73) = w5 at f5 q5 z5 ⊢
  have r1 := f5.blk q1 id
  have r2 := f5.blk q2 id
  have r3 := f5.blk q3 id
  have r4 := f5.blk q4 id
  have f45 := f4.trans f5 (fun _ _ h => h)
  have g3 := q5.cell 3 rfl
  have g0 := r1.cell 0 rfl
  clear q1 q2 q3 q4 d0 d1 d2 d3 d4 e1 e2 f4 f5 z4
  go_upto_region 5 with fail
  obtain ⟨F, hF⟩ : ∃ F, Value.func (.func 41) #[] #[.pointer (some ⟨nb, 0, none⟩), .pointer (some ⟨nb + 1 + 1 + 1 + 1, 0, none⟩), .pointer (some ⟨nb + 1, 0, none⟩), .pointer (some ⟨nb + 1 + 1, 0, none⟩)] = F := ⟨_, rfl⟩
  have f6 : Fr (fun _ => False) w5 (w5.alloc (.cells #[F, .pointer none] 53)) := (Fr.refl _ w5).alloc _
  have q6 : Blk (w5.alloc (.cells #[F, .pointer none] 53)) (nb + 1 + 1 + 1 + 1 + 1) [F, .pointer none] 53 := Blk.at_new _ _ _ _ _ z5.symm rfl
  have hFs : ∀ (w : World) (a : Addr) (m : Mode), (store a F m).run Try.prog w = stored Try.prog w a F m := by
    rw [← hF]
    exact FunV.store (.inr ⟨_, _, _, rfl⟩) Try.prog
  rw [hF]
  generalize w5.alloc (.cells #[F, .pointer none] 53) = w6 at f6 q6 ⊢
  have Hq := Lib.hid (And.intro (f6.blk r1 id) (And.intro (f6.blk r2 id) (And.intro (f6.blk r3 id) (And.intro (f6.blk r4 id) (And.intro (f6.blk q5 id) (And.intro q6 (f45.trans f6 (fun _ _ h => h))))))))
  have v0 := q6.cell 0 rfl
  have v1 := q6.cell 1 rfl
  have vf := q6.free 1
  have vl := q6.lt
  have u0 := (f6.blk r4 id).cell 0 rfl
  have u1 := (f6.blk r4 id).cell 1 rfl
  have uf0 := (f6.blk r4 id).free 0
  have uf1 := (f6.blk r4 id).free 1
  have ul := (f6.blk r4 id).lt
  have g0 := f6.cell g0 id
  have g3 := f6.cell g3 id
  have hob6 := (f45.trans f6 (fun _ _ h => h)).cell hob id
  have hms6 := fun k hk => (f45.trans f6 (fun _ _ h => h)).cell (hms k hk) id
  have HF := Lib.hid hF
  clear r1 r2 r3 r4 q5 q6 f45 f6 hob hms z5 hF
  by_cases hm : 0 < mutex
  · obtain ⟨f, rfl⟩ : ∃ f : Nat, mutex = (f : Int) + 1 := ⟨(mutex - 1).toNat, by omega⟩
    have hf4 : f < 4 := by have := hok.2.1.2; simp only at this; omega
    have if0 : (0 : Int) ≤ (f : Int) := by omega
    have if1 : (f : Int) < 4 := by omega
    have if2 : IntKind.i64.wrap ((f : Int) + 1 - 1) = (f : Int) := by rw [IntWalk.i64_in _ (by omega)]; omega
    have if3 : IntKind.i64.wrap (f : Int) = (f : Int) := IntWalk.i64_in _ (by omega)
    have if4 : wrap64 (f : Int) = (f : Int) := IntWalk.wrap64_in _ (by omega)
    have km : (⟨ma, 0, none⟩ : Addr).add f = ⟨ma, f, none⟩ := add_plain _ _
    have hmf6 := hms6 f hf4
    unfold ptr at hmf6
    clear hms6
    go_upto_region 6 with fail
    go_region
    go_wp2
    refine bodyPost_ret (results_cell_row rfl _ _ (nb + 1 + 1 + 1) 53 #[F, ptr (ms f)] (0, 0) _ rfl ?_ Try.underlying53 rfl (by kernel_rfl)) rfl ?_
    · exact ((((Hq.out.2.2.2.1).other (a := ⟨nb + 1 + 1 + 1 + 1 + 1, 1, none⟩) (by simp) _).set 0 F).set 1 (ptr (ms f))).drew
    · have fz : Fr (fun q => q = nb + 1 + 1 + 1 ∨ q = nb + 1 + 1 + 1 + 1 + 1) w6 (((w6.setCell ⟨nb + 1 + 1 + 1 + 1 + 1, 1, none⟩ (ptr (ms f))).setCell ⟨nb + 1 + 1 + 1, 0, none⟩ F).setCell ⟨nb + 1 + 1 + 1, 1, none⟩ (ptr (ms f))).drew :=
        ((((Fr.refl _ w6).setCell ⟨nb + 1 + 1 + 1 + 1 + 1, 1, none⟩ _ (fun _ => .inr rfl)).setCell ⟨nb + 1 + 1 + 1, 0, none⟩ _ (fun _ => .inl rfl)).setCell ⟨nb + 1 + 1 + 1, 1, none⟩ _ (fun _ => .inl rfl)).drew
      obtain ⟨t1, t2, t3, t4, t5, t6, t7⟩ := Hq.out
      have hn := Hn.out
      subst hn
      refine ⟨by rw [← HF.out]; rfl, t7.trans fz (fun i hi hh => by omega), fz.blk t1 (by omega), fz.blk t2 (by omega), fz.blk t3 (by omega), fun y hy => ?_⟩
      rw [HR.out.2] at hy
      injection hy with hy
      subst hy
      exact fz.blk t5 (by omega)
  · go_wp2
    refine bodyPost_ret (results_cell_row rfl _ _ (nb + 1 + 1 + 1) 53 #[F, .pointer none] (0, 0) _ rfl ((Hq.out.2.2.2.1.set 0 F).set 1 (.pointer none)) Try.underlying53 rfl (by kernel_rfl)) rfl ?_
    have fz : Fr (fun q => q = nb + 1 + 1 + 1) w6 ((w6.setCell ⟨nb + 1 + 1 + 1, 0, none⟩ F).setCell ⟨nb + 1 + 1 + 1, 1, none⟩ (.pointer none)) := ((Fr.refl _ w6).set1 _ _).set1 _ _
    obtain ⟨t1, t2, t3, t4, t5, t6, t7⟩ := Hq.out
    have hn := Hn.out
    subst hn
    refine ⟨by rw [← HF.out]; rfl, t7.trans fz (fun i hi hh => by omega), fz.blk t1 (by omega), fz.blk t2 (by omega), fz.blk t3 (by omega), fun y hy => ?_⟩
    rw [HR.out.2] at hy
    injection hy with hy
    subst hy
    exact fz.blk t5 (by omega)
end Go.Proofs.Ytlljfopacdnpbaa

/- For ChunkLeaves: a range over a function that is left by a break; Parts of a conf that may not be. Conditions: those of the lemmas. -/
import Derived.Test.YticlbmeldcncnaaBounds
import Derived.Sort.CutIn
import Derived.Stop.RegionWithIn
import Derived.Deep.RegionHeld3
namespace Go.Proofs.Yticlbmeldcncnaa
open Go.RowKit Go.Shelf Ch
attribute [local go_sem] Oper.semAt_some
/-- 'range_law' where the body leaves the loop by a break alone: what follows is walked once. -/
theorem range_break {α : Type} {P : Program} {g : Operand} {ps : Array Tmp} {assign body : Code} {Q : Exit → Act → World → Prop} {a : Act} {w : World} {n : Nat} {gf : Nat} {lb : Array Value} (id : Nat)
    (hg : a.eval g = .func (.func gf) #[] lb) (eg : ∀ args w, (callFunc gf args).run P w = .ok (.enter gf args) w)
    (encs : α → Array Value) (hps : ∀ x, (encs x).size = ps.size)
    (I Ix : List α → World → Prop) (Gd : List α → α → World → Prop) (Kp : World → World → Prop)
    (hI : Calm w.heap.size I) (hIx : Calm w.heap.size Ix) (hG : ∀ pre, Calm w.heap.size (Gd pre))
    (hKt : ∀ {A B C : World}, Kp A B → Kp B C → Kp A C) (hKb : ∀ W W', Fr (Turn w.heap.size W) W W' → Kp W W')
    (S Sp : List α → Prop)
    (hiter : ∀ (l : Nat) (J Jx : List α → World → Prop) (W : World), Fr (fun _ => False) w W → (∀ s A B, J s A → Fr (fun _ => False) A B → J s B) →
      (∀ pre x W1, J pre W1 → Gd pre x W1 → YieldAt Fence.wide (n - 1) P l (encs x) W1 fun e W' => (e = .returned (.bool true) ∧ J (pre ++ [x]) W' ∧ Kp W1 W') ∨ (e = .returned (.bool false) ∧ Jx (pre ++ [x]) W')) →
      J [] W → CallsIn Fence.wide (n - 1) P gf (#[.func (.yield l) #[] #[]] ++ lb) W fun e W' => (∃ v, e = .returned v) ∧ ((∃ xs, S xs ∧ J xs W') ∨ (∃ pre, Sp pre ∧ Jx pre W')))
    (h0 : I [] w) (R : World → Prop)
    (hround : ∀ (l : Nat) (pre : List α) (x : α) (W : World), I pre W → Gd pre x W →
      assign.wpIn (Fence.wide.inRound l) (n - 1) P (Exit.then (fun a1 W1 => Fr (fun _ => False) W W1 ∧ ∀ W2, Fr (Turn w.heap.size W1) W1 W2 → body.wpIn (Fence.wide.inRound l) (n - 1) P (outPost w.heap.size Kp I (fun c pre W => c = .exit id ∧ Ix pre W) (pre ++ [x]) W2) a1 W2) (fun _ _ _ => False))
        { tmps := (ps.zip (encs x)).foldl (fun t (p, v) => t.setIfInBounds p v) a.tmps, defers := [] } W)
    (hdone : ∀ (xs : List α) (W : World), S xs → I xs W → R W) (hstop : ∀ (pre : List α) (W : World), Sp pre → Ix pre W → R W)
    (hQx : ∀ a w, Q .normal a w → Q (.exit id) a w)
    (hrest : ∀ (D : Nat) (W : World), w.heap.size ≤ D → R W → W.heap[D]? = some (.deferred (some [])) → Q .normal { a with defers := { target := .collected D, args := #[] } :: a.defers } W) :
    (Code.rangeFunc g ps assign body).wpIn Fence.wide n P Q a w := by
  refine range_law hg eg encs hps I (fun c pre W => c = .exit id ∧ Ix pre W) Gd Kp hI (fun c s W W' h hf => ⟨h.1, hIx s W W' h.2 hf⟩) hG hKt hKb S Sp hiter h0 hround ?_ ?_
  · intro D xs W hD hS hi hd
    exact hrest D W hD (hdone xs W hS hi) hd
  · rintro D c pre W hD hSp ⟨rfl, hi⟩ hd
    exact wpIn_exit (hQx _ _ (hrest D W hD (hstop pre W hSp hi) hd))
/-- Parts' chunks: none where the conf may not be. -/
noncomputable def partsOf (c : Cf) (bs : List Int) : List (List Int) := if c.ok then (St.run c ⟨[], [], []⟩ bs).parts else []
set_option maxHeartbeats 1000000 in
set_option maxRecDepth 100000 in
theorem parts_iter2 {m : Nat} (c0 c1 c2 c3 c4 c5 c6 c7 c8 c9 c10 c11 : Int) (cB dB : Nat) (A : Option Addr) (n cp : Nat) (bs : List Int) (w : World)
    (hcB : Blk w cB (i64s [c0, c1, c2, c3, c4, c5, c6, c7, c8, c9, c10, c11]) 23) (hdB : Blk w dB [.slice A n cp] 24) (hD : RdB w A n bs) (hn : n ≤ 1000000)
    (l : Nat) (J Jx : List Ck → World → Prop) (W : World) (hW : Fr (fun _ => False) w W) (hJ : ∀ s A B, J s A → Fr (fun _ => False) A B → J s B)
    (hY : ∀ pre x W1, J pre W1 → Gd (partsOf ⟨c8, c9, c10⟩ bs) pre x W1 → YieldAt Fence.wide (m - 1) Try.prog l #[.int .i64 x.at_, x.v] W1 fun e W' => (e = .returned (.bool true) ∧ J (pre ++ [x]) W' ∧ Kp W1 W') ∨ (e = .returned (.bool false) ∧ Jx (pre ++ [x]) W'))
    (h0 : J [] W) :
    CallsIn Fence.wide (m - 1) Try.prog 22 (#[.func (.yield l) #[] #[]] ++ #[.pointer (some ⟨cB, 0, none⟩), .pointer (some ⟨dB, 0, none⟩)]) W fun e W' => (∃ v, e = .returned v) ∧
      ((∃ xs : List Ck, xs.map Ck.cs = partsOf ⟨c8, c9, c10⟩ bs ∧ J xs W') ∨ (∃ pre : List Ck, pre.map Ck.cs <+: partsOf ⟨c8, c9, c10⟩ bs ∧ Jx pre W')) := by
  by_cases hok : (⟨c8, c9, c10⟩ : Cf).ok
  · unfold partsOf at hY ⊢
    rw [if_pos hok] at hY ⊢
    exact parts_iter c0 c1 c2 c3 c4 c5 c6 c7 c8 c9 c10 c11 hok.1 hok.2.1 hok.2.2.1 hok.2.2.2.1 hok.2.2.2.2 cB dB A n cp bs w hcB hdB hD hn l J Jx W hW hJ hY h0
  · have hno : ¬ (1 ≤ c8 ∧ 1 ≤ c9 ∧ c9 ≤ 65536 ∧ c8 ≤ c10 ∧ c10 ≤ 4096) := hok
    unfold partsOf
    rw [if_neg hok]
    clear hY hok
    have Hno := Lib.hid hno
    clear hno
    have hcW := hW.blk hcB id
    obtain ⟨e0, e1, e2, e3, e4, e5, e6, e7, e8, e9, e10, e11⟩ := agg_of c0 c1 c2 c3 c4 c5 c6 c7 c8 c9 c10 c11 W _ hcW
    refine callsIn_of_wp Try.func22 rfl trivial ?_ rfl
    simp only [Try.ntmps22, List.size_toArray, List.length_cons, List.length_nil, Nat.reduceAdd, Nat.reduceSub, Array.replicate_succ, Array.replicate_zero, List.push_toArray, List.append_toArray, List.nil_append, List.cons_append]
    have nd : Fence.wide.depth.isSome = true → 1 ≤ m - 1 := fun h => by simp [Fence.wide] at h
    have ND := Lib.hid nd
    clear nd
    gi_wp2_with (fail)
    refine ⟨trivial, ND.out, (callsIn_wide.2 (new_no c0 c1 c2 c3 c4 c5 c6 c7 c8 c9 c10 c11 W Hno.out)).mono ?_⟩
    rintro e W1 ⟨rfl, hf1⟩
    clear e0 e1 e2 e3 e4 e5 e6 e7 e8 e9 e10 e11
    gi_wp2
    refine bodyPost_ret (results_none rfl _ _ _) rfl ?_
    exact ⟨⟨_, rfl⟩, .inl ⟨[], rfl, hJ _ _ _ h0 hf1⟩⟩
end Go.Proofs.Yticlbmeldcncnaa

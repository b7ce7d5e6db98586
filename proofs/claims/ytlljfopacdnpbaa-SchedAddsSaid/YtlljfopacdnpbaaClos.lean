/- A task's function: it does its step and hands the next one over. Conditions: those of the lemmas. -/
import Derived.Test.YtlljfopacdnpbaaNext
namespace Go.Proofs.Ytlljfopacdnpbaa
open Go.RowKit
theorem WdAt.ob1 {W : World} {E : Env} {s : St} (h : WdAt W E s) : W.cell? ⟨E.wb, 1, none⟩ = some (.slice (some ⟨E.ma, 0, none⟩) 4 E.mc) := h.obj.cell 1 rfl
theorem next_any' {W : World} (E : Env) (hob : W.cell? ⟨E.wb, 1, none⟩ = some (.slice (some ⟨E.ma, 0, none⟩) 4 E.mc)) (hms : ∀ k, k < 4 → W.cell? ⟨E.ma, k, none⟩ = some (ptr (E.m k))) (A : Option Addr) (cp : Nat) (l : List Ins) (hl : ∀ x ∈ l, x.ok) (hR : Rd W A (insR l)) (at_ : Nat) (hmx : at_ < 9223372036854775807) :
    Calls Try.prog 40 #[.pointer (some ⟨E.wb, 0, none⟩), .slice A l.length cp, .int .i64 (at_ : Int)] W fun e w' => ∃ f' m', e = .returned (.agg #[f', m']) ∧ (f', m') = nextV E l at_ W.heap.size ∧ Fr (fun _ => False) W w' ∧ (at_ < l.length → Tk w' E.wb A cp l at_ W.heap.size) := by
  by_cases hlt : at_ < l.length
  · have hx : l[at_]? = some l[at_] := List.getElem?_eq_getElem hlt
    refine (next_some E.m hob hms A cp l hR at_ _ hx (hl _ (List.getElem_mem hlt)) hmx).mono ?_
    rintro e w' ⟨rfl, hf, ht⟩
    refine ⟨_, _, rfl, ?_, hf, fun _ => ht⟩
    unfold nextV
    rw [hx]
    rfl
  · refine (next_end E.wb A l.length cp at_ (by omega)).mono ?_
    rintro e w' ⟨rfl, hf⟩
    refine ⟨_, _, rfl, ?_, hf, fun h => absurd h hlt⟩
    unfold nextV
    rw [List.getElem?_eq_none (by omega)]
theorem next_any {W : World} {E : Env} {s : St} (h : WdAt W E s) (A : Option Addr) (cp : Nat) (l : List Ins) (hl : ∀ x ∈ l, x.ok) (hR : Rd W A (insR l)) (at_ : Nat) (hmx : at_ < 9223372036854775807) :
    Calls Try.prog 40 #[.pointer (some ⟨E.wb, 0, none⟩), .slice A l.length cp, .int .i64 (at_ : Int)] W fun e w' => ∃ f' m', e = .returned (.agg #[f', m']) ∧ (f', m') = nextV E l at_ W.heap.size ∧ Fr (fun _ => False) W w' ∧ (at_ < l.length → Tk w' E.wb A cp l at_ W.heap.size) :=
  next_any' E h.ob1 (fun k hk => h.mAt hk) A cp l hl hR at_ hmx
theorem nextV_fun (E : Env) (l : List Ins) (at_ n : Nat) : FunV (nextV E l at_ n).1 := by
  unfold nextV
  split
  · exact .inr ⟨_, _, _, rfl⟩
  · exact .inl rfl
theorem nextV_ptr (E : Env) (l : List Ins) (at_ n : Nat) : ∃ q, (nextV E l at_ n).2 = .pointer q := by
  unfold nextV onV ptr
  split
  · split <;> exact ⟨_, rfl⟩
  · exact ⟨_, rfl⟩
set_option maxHeartbeats 2000000 in
theorem clos_any {W : World} {E : Env} {s : St} (h : WdAt W E s) (A : Option Addr) (cp : Nat) (l : List Ins) (hl : ∀ x ∈ l, x.ok) (hR : Rd W A (insR l)) (at_ n : Nat) (x : Ins) (hx : l[at_]? = some x) (hmx : at_ < 9223372036854775806) (ht : Tk W E.wb A cp l at_ n)
    (hsep : ∀ q, E.mem q → ¬ (n ≤ q ∧ q < n + 5)) (hA : ∀ ad, A = some ad → ¬ E.mem ad.block) (slot : Nat) (hs : slot < s.known.length) :
    Calls Try.prog 41 #[.int .i64 (slot : Int), ptr n, ptr (n + 4), ptr (n + 1), ptr (n + 2)] W fun e w' => ∃ f' m', e = .returned (.agg #[f', m']) ∧ FunV f' ∧ (∃ q, m' = .pointer q) ∧ Fr E.mem W w' ∧
      (WdAt w' E (freeK x slot (doK x slot s)) ∧ ∃ n', W.heap.size ≤ n' ∧ (f', m') = nextV E l (at_ + 1) n' ∧ (at_ + 1 < l.length → Tk w' E.wb A cp l (at_ + 1) n')) := by
  have f1 : Fr (fun _ => False) W (W.alloc (.cells #[.nilFunc, .pointer none] 53)) := (Fr.refl _ W).alloc _
  have q0 : Blk (W.alloc (.cells #[.nilFunc, .pointer none] 53)) W.heap.size [.nilFunc, .pointer none] 53 := Blk.at_new _ _ _ _ _ rfl rfl
  have h1 := h.new f1
  have ht1 := ht.fr f1 (fun _ _ _ => id)
  have c1 := ht1.b1.cell 0 rfl
  have b2 := ht1.b2 x hx
  have hxo := hl x (List.mem_of_getElem? hx)
  have CD := Lib.hid (do_any h1 x hxo slot hs)
  have R1 := Lib.hid hR
  have h0 : W.heap.size < (W.alloc (.cells #[.nilFunc, .pointer none] 53)).heap.size := q0.lt
  have z0 : ∀ q, E.mem q → q < W.heap.size := by
    rintro q (rfl | ⟨k, hk, rfl | rfl⟩)
    · obtain ⟨_, hc⟩ := h.knB; exact hc.lt
    · exact Blk.lt (h.cel k hk)
    · obtain ⟨_, hc, _⟩ := h.muB hk; exact hc.lt
  have hlt := (List.getElem?_eq_some_iff.1 hx).1
  have Hx := Lib.hid hx
  obtain ⟨kind, cell, nn, mutex, free⟩ := x
  have d0 := b2.cell 0 rfl
  have d1 := b2.cell 1 rfl
  have d2 := b2.cell 2 rfl
  have d3 := b2.cell 3 rfl
  have d4 := b2.cell 4 rfl
  clear h ht hx h1
  unfold ptr at c1 ⊢
  go_enter Try.func41, Try.ntmps41
  go_wp2_with fail
  refine CD.out.mono ?_
  rintro e w2 ⟨rfl, h2, hf2⟩
  have hz : ¬ E.mem W.heap.size := fun h => Nat.lt_irrefl _ (z0 _ h)
  have ht2 := ht1.fr hf2 (fun q h1 h2 h => hsep q h ⟨h1, h2⟩)
  have q2 := hf2.blk q0 hz
  have e1 := ht2.b1.cell 0 rfl
  have e3 := ht2.b3.cell 0 rfl
  have e4 := ht2.b4.cell 0 rfl
  unfold ptr at e1
  have if2 : IntKind.i64.wrap ((at_ : Int) + 1) = ((at_ + 1 : Nat) : Int) := by rw [IntWalk.i64_in _ (by omega)]; omega
  have if3 : wrap64 ((at_ : Int) + 1) = ((at_ + 1 : Nat) : Int) := by rw [IntWalk.wrap64_in _ (by omega)]; omega
  have f12 : Fr E.mem W w2 := (f1.mono (fun _ _ h => h.elim)).trans hf2 (fun _ _ h => h)
  have CN := Lib.hid (next_any h2 A cp l hl ((R1.out.fr f1 (fun _ _ => id)).fr hf2 hA) (at_ + 1) (by omega))
  have H2 := Lib.hid (And.intro h2 f12)
  have hs2 := f12.size
  have hs3 := q2.lt
  clear CD h2 hf2 f12 ht1 ht2 q0 c1 b2 d0 d1 d2 d3 d4 f1
  go_wp2_with fail
  refine CN.out.mono ?_
  rintro e w3 ⟨f', m', rfl, hv, hf3, ht3⟩
  have hfun : FunV f' := by have := nextV_fun E l (at_ + 1) w2.heap.size; rwa [← hv] at this
  obtain ⟨mq, hmq⟩ : ∃ q, m' = .pointer q := by have := nextV_ptr E l (at_ + 1) w2.heap.size; rwa [← hv] at this
  subst hmq
  have q3 := hf3.blk q2 id
  have v0 := q3.cell 0 rfl
  have v1 := q3.cell 1 rfl
  have vf0 := q3.free 0
  have vf1 := q3.free 1
  have vl := q3.lt
  have hst := hfun.store Try.prog
  have HH := Lib.hid (And.intro hv (And.intro hf3 (And.intro ht3 q3)))
  clear hv hf3 ht3 q3 CN q2 e1 e3 e4
  go_wp2
  refine bodyPost_ret (results_cell_row rfl _ _ W.heap.size 53 #[f', .pointer mq] (0, 0) _ rfl ((HH.out.2.2.2.set 0 f').set 1 (.pointer mq)) Try.underlying53 rfl (by kernel_rfl)) rfl ?_
  have fz : Fr (fun q => q = W.heap.size) w3 ((w3.setCell ⟨W.heap.size, 0, none⟩ f').setCell ⟨W.heap.size, 1, none⟩ (.pointer mq)) := ((Fr.refl _ w3).set1 _ _).set1 _ _
  have f3 := HH.out.2.1
  have f23 : Fr E.mem W w3 := H2.out.2.trans f3 (fun _ _ h => h.elim)
  have hwd := (H2.out.1.new f3)
  refine ⟨f', _, rfl, hfun, ⟨mq, rfl⟩, f23.trans fz (fun i hi hh => by omega), ?_, w2.heap.size, hs2, HH.out.1, fun h => (HH.out.2.2.1 h).fr fz (fun q h1 h2 h3 => by omega)⟩
  obtain ⟨_, hc⟩ := hwd.csB
  obtain ⟨_, hm⟩ := hwd.msB
  obtain ⟨_, hk⟩ := hwd.knB
  have hb := HH.out.2.2.2
  exact hwd.fr fz (fun h => (hwd.obj.ne hb (by decide)) h) (fun h => (hc.ne hb (by decide)) h) (fun h => (hm.ne hb (by decide)) h) (fun h => (hk.ne hb (by decide)) h) (fun k hk h => (Blk.ne (hwd.cel k hk) hb (by decide)) h) (fun k hk h => by obtain ⟨_, hx, _⟩ := hwd.muB hk; exact (hx.ne hb (by decide)) h)
end Go.Proofs.Ytlljfopacdnpbaa

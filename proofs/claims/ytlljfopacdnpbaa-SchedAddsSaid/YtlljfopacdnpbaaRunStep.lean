/- Tasks at work: a step of one of them. Conditions: those of the lemmas. -/
import Derived.Test.YtlljfopacdnpbaaRun
namespace Go.Proofs.Ytlljfopacdnpbaa
open Go.RowKit
theorem doK_held (x : Ins) (k : Nat) (s : St) : (doK x k s).held = s.held := by
  unfold doK
  split
  · rfl
  · split
    · rfl
    · split
      · split <;> rfl
      · rfl
theorem doK_known (x : Ins) (k : Nat) (s : St) : (doK x k s).known.length = s.known.length := by
  unfold doK
  split
  · simp
  · split
    · rfl
    · split
      · split <;> simp
      · simp
theorem freeK_known (x : Ins) (k : Nat) (s : St) : (freeK x k s).known = s.known := by unfold freeK; split <;> rfl
theorem takeK_known (x : Ins) (k : Nat) (s : St) : (takeK x k s).known = s.known := by unfold takeK; split <;> rfl
theorem stepK_known (x : Ins) (k : Nat) (s : St) : (stepK x k s).known.length = s.known.length := by
  unfold stepK
  rw [freeK_known, doK_known, takeK_known]
theorem stepK_hp (x : Ins) (k : Nat) (s : St) (h : ∀ j v, s.held j = some v → 0 ≤ v) : ∀ j v, (stepK x k s).held j = some v → 0 ≤ v := by
  have h1 : ∀ j v, (takeK x k s).held j = some v → 0 ≤ v := by
    intro j v
    unfold takeK
    split
    · simp only [upd]
      split
      · intro e; injection e with e; omega
      · exact h j v
    · exact h j v
  intro j v
  unfold stepK freeK
  split
  · simp only [upd]
    split
    · intro e; cases e
    · rw [doK_held]; exact h1 j v
  · rw [doK_held]; exact h1 j v
section
variable {w W W' : World} {E : Env} {tb : Nat} {st : Int} {ls : List PT} {pos : Nat → Nat} {s : St} {T : List TV}
theorem WdAt.setM' {S : Nat → Prop} (h : WdAt W E s) {k : Nat} {o : Option Int} (hc : MuV W' (.pointer (some ⟨E.m k, 0, none⟩)) o) (hf : Fr S W W') (h1 : ¬ S E.wb) (h2 : ¬ S E.ca) (h3 : ¬ S E.ma) (h4 : ¬ S E.kb) (h5 : ∀ j, j < 4 → ¬ S (E.c j)) (h6 : ∀ j, j < 4 → j ≠ k → ¬ S (E.m j)) : WdAt W' E { s with held := upd s.held k o } := by
  refine ⟨hf.blk h.obj h1, h.cs.fr hf (fun q hq => ?_), h.ms.fr hf (fun q hq => ?_), fun j hj => hf.blk (h.cel j hj) (h5 j hj), fun j hj => ?_, h.kn.fr hf (fun q hq => ?_), h.ci, h.mi⟩
  · have : E.ca = q := by simpa [Value.ownBlock] using hq
    rw [← this]; exact h2
  · have : E.ma = q := by simpa [Value.ownBlock] using hq
    rw [← this]; exact h3
  · by_cases e : j = k
    · subst e
      simp only [upd_same]
      exact hc
    · simp only [upd_ne _ _ e]
      refine (h.mux j hj).fr hf (fun mb hm hh => ?_)
      injection hm with hm
      injection hm with hm
      injection hm with hm
      exact h6 j hj e (by rw [hm]; exact hh)
  · have : E.kb = q := by simpa [Value.ownBlock] using hq
    rw [← this]; exact h4
/-- A block of another kind is none of the world's. -/
theorem WdAt.notMem (h : WdAt W E s) {q : Nat} {cs : List Value} {t : TypeId} (hb : Blk W q cs t) (h3 : t ≠ 3) (h81 : t ≠ 81) (h83 : t ≠ 83) : ¬ E.mem q := by
  rintro (rfl | ⟨k, hk, rfl | rfl⟩)
  · obtain ⟨_, hc⟩ := h.knB; exact (hc.ne hb (Ne.symm h3)) rfl
  · exact (Blk.ne (h.cel k hk) hb (Ne.symm h81)) rfl
  · obtain ⟨_, hc, _⟩ := h.muB hk; exact (hc.ne hb (Ne.symm h83)) rfl
theorem Run.parts (h : Run w W E tb st ls pos s T) {S : Nat → Prop} (hS : ∀ q, S q → q = E.sb ∨ q = tb) : ¬ S E.wb ∧ ¬ S E.ca ∧ ¬ S E.ma ∧ ¬ S E.kb ∧ (∀ j, j < 4 → ¬ S (E.c j)) ∧ (∀ j, j < 4 → ¬ S (E.m j)) := by
  have key : ∀ (q : Nat) (cs : List Value) (t : TypeId), Blk W q cs t → t ≠ 78 → t ≠ 53 → ¬ S q := fun q cs t hb h1 h2 hs => by
    rcases hS q hs with rfl | rfl
    · exact (hb.ne h.sch.blk h1) rfl
    · exact (hb.ne h.sch.tsk h2) rfl
  obtain ⟨_, ha⟩ := h.wd.csB
  obtain ⟨_, hm⟩ := h.wd.msB
  obtain ⟨_, hk⟩ := h.wd.knB
  exact ⟨key _ _ _ h.wd.obj (by decide) (by decide), key _ _ _ ha (by decide) (by decide), key _ _ _ hm (by decide) (by decide), key _ _ _ hk (by decide) (by decide), fun j hj => key _ _ _ (h.wd.cel j hj) (by decide) (by decide), fun j hj => by obtain ⟨_, hx, _⟩ := h.wd.muB hj; exact key _ _ _ hx (by decide) (by decide)⟩
set_option maxHeartbeats 1000000 in
theorem run_step (h : Run w W E tb st ls pos s T) {i : Nat} {p : PT} (hp : ls[i]? = some p) {x : Ins} (hx : p.l[pos i]? = some x) (hr : 0 < x.mutex → s.held (x.mutex.toNat - 1) = none) :
    Calls Try.prog 33 #[.pointer (some ⟨E.sb, 0, none⟩), .int .i64 (i : Int)] W fun e w' => e = .returned (.int .i64 0) ∧ Fr (Mem E tb) W w' ∧ ∃ T', Run w w' E tb (wrap64 (st + 1)) ls (upd pos i (pos i + 1)) (stepK x i s) T' := by
  obtain ⟨hrd, hsA, hok, h60⟩ := h.rd p (List.mem_of_getElem? hp)
  have hxo := hok x (List.mem_of_getElem? hx)
  have hlt := (List.getElem?_eq_some_iff.1 hx).1
  have hil := (List.getElem?_eq_some_iff.1 hp).1
  obtain ⟨n, hT, htk⟩ := h.tk i p hp
  obtain ⟨hTk, hsep⟩ := htk hlt
  have hT' := hT
  unfold nextV at hT
  rw [hx] at hT
  simp only at hT
  have hm : MuV W (onV E x) none := by
    unfold onV
    split
    · rename_i hm0
      have := h.wd.mux (x.mutex.toNat - 1) (by have := hxo.2.1; omega)
      rwa [hr hm0] at this
    · exact muNone W
  have hsbM : ¬ E.mem E.sb := h.wd.notMem h.sch.blk (by decide) (by decide) (by decide)
  have htbM : ¬ E.mem tb := h.wd.notMem h.sch.tsk (by decide) (by decide) (by decide)
  have he : ∀ args w, (callFunc 41 args).run Try.prog w = .ok (.enter 41 args) w := enters Try.func41 (by kernel_rfl) rfl
  have hgo := step_go (S' := E.mem) (Q := fun W2 f' m' => WdAt W2 E (stepK x i s) ∧ ∃ n', W.heap.size ≤ n' ∧ (f', m') = nextV E p.l (pos i + 1) n' ∧ (pos i + 1 < p.l.length → Tk W2 E.wb p.A p.cp p.l (pos i + 1) n')) h.sch hT hm hsbM htbM
    (fun q hq hM => by have := h.lt q (.inl hM); omega) he (fun W1 f1 hs1 hm1 => by
      have hmemS : ∀ q, (q = E.sb ∨ onV E x = .pointer (some ⟨q, 0, none⟩)) → Mem E tb q := by
        rintro q (rfl | hq)
        · exact .inr (.inl rfl)
        · unfold onV ptr at hq
          split at hq
          · injection hq with hq
            injection hq with hq
            injection hq with hq
            exact .inl (.inr ⟨x.mutex.toNat - 1, by have := hxo.2.1; omega, .inr hq.symm⟩)
          · cases hq
      have hw1 : WdAt W1 E (takeK x i s) := by
        have hpa := h.parts (S := fun q => q = E.sb) (fun q hq => .inl hq)
        unfold takeK
        by_cases hm0 : 0 < x.mutex
        · rw [if_pos hm0]
          have hk4 : x.mutex.toNat - 1 < 4 := by have := hxo.2.1; omega
          have e1 : onV E x = .pointer (some ⟨E.m (x.mutex.toNat - 1), 0, none⟩) := by unfold onV; rw [if_pos hm0]; rfl
          rw [e1] at f1 hm1
          obtain ⟨y, hy, _⟩ := h.wd.muB hk4
          obtain ⟨_, ha⟩ := h.wd.csB
          obtain ⟨_, hmm⟩ := h.wd.msB
          obtain ⟨_, hkk⟩ := h.wd.knB
          have key : ∀ (q : Nat) (cs : List Value) (t : TypeId), Blk W q cs t → t ≠ 83 → ¬ (q = E.sb) → ¬ (q = E.sb ∨ Value.pointer (some ⟨E.m (x.mutex.toNat - 1), 0, none⟩) = .pointer (some ⟨q, 0, none⟩)) := by
            rintro q cs t hb ht hns (hh | hh)
            · exact hns hh
            · injection hh with hh
              injection hh with hh
              injection hh with hh
              exact (hb.ne hy ht) hh.symm
          exact h.wd.setM' hm1 f1 (key _ _ _ h.wd.obj (by decide) hpa.1) (key _ _ _ ha (by decide) hpa.2.1) (key _ _ _ hmm (by decide) hpa.2.2.1) (key _ _ _ hkk (by decide) hpa.2.2.2.1) (fun j hj => key _ _ _ (h.wd.cel j hj) (by decide) (hpa.2.2.2.2.1 j hj)) (fun j hj hne hh => by
            rcases hh with hh | hh
            · exact hpa.2.2.2.2.2 j hj hh
            · injection hh with hh
              injection hh with hh
              injection hh with hh
              exact hne (h.wd.mi j _ hj hk4 hh.symm))
        · rw [if_neg hm0]
          have e1 : onV E x = .pointer none := by unfold onV; rw [if_neg hm0]
          rw [e1] at f1
          have f1' : Fr (fun q => q = E.sb) W W1 := f1.mono (fun q _ hh => hh.elim id (fun h => by cases h))
          exact h.wd.fr f1' hpa.1 hpa.2.1 hpa.2.2.1 hpa.2.2.2.1 hpa.2.2.2.2.1 hpa.2.2.2.2.2
      have hc := clos_any hw1 p.A p.cp p.l hok (hrd.fr f1 (fun ad hA hh => hsA ad hA (hmemS _ hh))) (pos i) n x hx (by omega) (hTk.fr f1 (fun q h1 h2 hh => hsep q (hmemS q hh) ⟨h1, h2⟩)) (fun q hq => hsep q (.inl hq)) (fun ad hA hh => hsA ad hA (.inl hh)) i (by rw [takeK_known, h.kn]; exact hil)
      refine hc.mono ?_
      rintro e w' ⟨f', m', rfl, hF, hM, hf, hwd, n', hn', hv, ht⟩
      exact ⟨f', m', rfl, hF, hM, hf, hwd, n', Nat.le_trans f1.size hn', hv, ht⟩)
  refine hgo.mono ?_
  rintro e w' ⟨rfl, W2, f', m', ⟨hwd, n', hn', hv, ht⟩, hfT, hf2, hsch⟩
  have hmem2 : Fr (Mem E tb) W W2 := hf2.mono (by
    rintro q _ (rfl | hq | hq)
    · exact .inr (.inl rfl)
    · unfold onV ptr at hq
      split at hq
      · injection hq with hq
        injection hq with hq
        injection hq with hq
        exact .inl (.inr ⟨x.mutex.toNat - 1, by have := hxo.2.1; omega, .inr hq.symm⟩)
      · cases hq
    · exact .inl hq)
  have hfall : Fr (Mem E tb) W w' := hmem2.trans hfT (fun q _ hq => .inr (.inr hq))
  refine ⟨rfl, hfall, T.set i (f', m'), ?_, hsch, by rw [List.length_set, h.len], ?_, ?_, by rw [stepK_known, h.kn], stepK_hp x i s h.hp, ?_, h.nw⟩
  · have htsk : Blk w' tb (pairs (T.set i (f', m'))) 53 := hsch.tsk
    obtain ⟨_, ha⟩ := hwd.csB
    obtain ⟨_, hmm⟩ := hwd.msB
    obtain ⟨_, hkk⟩ := hwd.knB
    have hlt2 : tb < W2.heap.size := by have := h.sch.tsk.lt; have := hmem2.size; omega
    have htb2 : Blk W2 tb (pairs T) 53 := hf2.blk h.sch.tsk (by
      rintro (hh | hh | hh)
      · exact h.sch.ne hh.symm
      · unfold onV ptr at hh
        split at hh
        · injection hh with hh
          injection hh with hh
          injection hh with hh
          exact htbM (.inr ⟨x.mutex.toNat - 1, by have := hxo.2.1; omega, .inr hh.symm⟩)
        · cases hh
      · exact htbM hh)
    exact hwd.fr hfT (hwd.obj.ne htb2 (by decide)) (ha.ne htb2 (by decide)) (hmm.ne htb2 (by decide)) (hkk.ne htb2 (by decide)) (fun j hj => Blk.ne (hwd.cel j hj) htb2 (by decide)) (fun j hj => by obtain ⟨_, hx, _⟩ := hwd.muB hj; exact hx.ne htb2 (by decide))
  · intro j q hq
    by_cases e : j = i
    · subst e
      rw [hp] at hq
      injection hq with hq
      subst hq
      refine ⟨n', ?_, fun hl => ⟨?_, fun q hq => ?_⟩⟩
      · rw [List.getElem?_set_self (by rw [h.len]; exact hil), upd_same, hv]
      · rw [upd_same] at hl ⊢
        exact (ht hl).fr hfT (fun q h1 h2 hh => by
          have := h.sch.tsk.lt
          omega)
      · have := h.lt q hq
        omega
    · obtain ⟨n2, g1, g2⟩ := h.tk j q hq
      refine ⟨n2, ?_, fun hl => ?_⟩
      · rw [List.getElem?_set_ne (Ne.symm e), upd_ne _ _ e]
        exact g1
      · rw [upd_ne _ _ e] at hl ⊢
        obtain ⟨g3, g4⟩ := g2 hl
        exact ⟨g3.fr hfall (fun q h1 h2 hh => g4 q hh ⟨h1, h2⟩), g4⟩
  · intro q hq
    obtain ⟨g1, g2, g3⟩ := h.rd q hq
    exact ⟨g1.fr hfall (fun ad hA hh => g2 ad hA hh), g2, g3⟩
  · exact h.fr.trans hfall (fun q hq hh => by have := h.nw q hh; omega)
end
end Go.Proofs.Ytlljfopacdnpbaa

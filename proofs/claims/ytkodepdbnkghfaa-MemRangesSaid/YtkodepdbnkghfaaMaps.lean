/- Maps of numbers: Get, High, Without. Conditions: those of the lemmas. -/
import Derived.Test.YtkodepdbnkghfaaMapI
import Derived.Test.YtkodepdbnkghfaaWithoutI
namespace Go.Proofs.Ytkodepdbnkghfaa
open Go.RowKit
theorem mhigh_any {W : World} {q : Option Addr} {t : Tr Int} (h : IsI W q t) :
    Calls Try.prog 19 #[.agg #[.pointer q]] W fun e w' => e = .returned (.int .i64 (t.ht : Int)) ∧ Fr (fun _ => False) W w' := by
  have f0 : Fr (fun _ => False) W (W.alloc (.cells #[.pointer q] 40)) := (Fr.refl _ W).alloc _
  have C := Lib.hid (heightI_any (h.new f0))
  clear h
  go_enter Try.func19, Try.ntmps19
  go_wp2_with fail
  refine C.out.mono ?_
  rintro e w1 ⟨rfl, rfl⟩
  go_wp2
  go_ret
  exact ⟨rfl, f0⟩
set_option maxHeartbeats 1000000 in
set_option maxRecDepth 100000 in
theorem mget_any {W : World} {q : Option Addr} {t : Tr Int} (h : IsI W q t) (k : ByteArray) :
    Calls Try.prog 14 #[.agg #[.pointer q], .string k] W fun e w' => e = .returned (.tuple #[.int .i64 ((t.get k).getD 0), .bool (t.get k).isSome]) ∧ Fr (fun _ => False) W w' := by
  have f0 : Fr (fun _ => False) W (W.alloc (.cells #[.pointer q] 40)) := (Fr.refl _ W).alloc _
  have h0 := h.new f0
  have H := Lib.hid h0
  clear h h0
  obtain ⟨n, hn⟩ : ∃ n, n = t.ht := ⟨_, rfl⟩
  have Hn := Lib.hid hn
  clear hn
  generalize hR : t.get k = R
  have HR := Lib.hid hR
  clear hR
  go_enter Try.func14, Try.ntmps14
  go_wp2_with fail
  generalize W.alloc (.cells #[.pointer q] 40) = w0 at f0 H ⊢
  go_loopg [6] n (fun g p wr => wr = w0 ∧ ∃ q t, p = .pointer q ∧ IsI w0 q t ∧ t.get k = R ∧ t.ht ≤ g)
  case atStart => exact ⟨rfl, q, t, rfl, H.out, HR.out, Nat.le_of_eq Hn.out.symm⟩
  case round =>
    obtain ⟨rfl, q, t, rfl, h, hg, hm⟩ := hrel
    clear H HR Hn
    cases t with
    | nil =>
      obtain rfl : q = none := h
      obtain rfl : none = R := hg
      go_wp2
      go_ret2
      exact ⟨rfl, f0⟩
    | node l nk nv r =>
      obtain ⟨b, ql, qr, rfl, hb, hl, hr⟩ := h
      obtain ⟨k0, k1, k2, k3⟩ := cells4I hb
      have e1 : (Tr.node l nk nv r).ht = 1 + max l.ht r.ht := rfl
      rw [Tr.get] at hg
      by_cases c1 : nk = k
      · subst c1
        rw [if_pos rfl] at hg
        subst hg
        clear hb
        go_wp2
        go_ret2
        exact ⟨rfl, f0⟩
      · rw [if_neg c1] at hg
        have t1 := toList_ne c1
        by_cases c2 : sLt k nk = true
        · rw [if_pos c2] at hg
          have t2 : Op.bytesLess k.toList nk.toList = true := c2
          have hlt : l.ht < gk := by omega
          have A := Lib.hid (And.intro hg hlt)
          clear hg hlt hm e1 c1 c2 hb
          go_wp2
          go_roundg l.ht
          case measure => exact A.out.2
          case rel => exact ⟨rfl, ql, l, rfl, hl, A.out.1, Nat.le_refl _⟩
        · rw [if_neg c2] at hg
          have t2 : Op.bytesLess k.toList nk.toList = false := (by simpa using c2 : sLt k nk = false)
          have hlt : r.ht < gk := by omega
          have A := Lib.hid (And.intro hg hlt)
          clear hg hlt hm e1 c1 c2 hb
          go_wp2
          go_roundg r.ht
          case measure => exact A.out.2
          case rel => exact ⟨rfl, qr, r, rfl, hr, A.out.1, Nat.le_refl _⟩
/-- The tree behind Without. -/
def Tr.wo {V : Type} (t : Tr V) (k : ByteArray) : Tr V := if (t.get k).isSome then t.without k else t
set_option maxHeartbeats 1000000 in
theorem mwithout_any {W : World} {q : Option Addr} {t : Tr Int} (h : IsI W q t) (k : ByteArray) (hc : t.cnt ≤ 900000) :
    Calls Try.prog 21 #[.agg #[.pointer q], .string k] W fun e w' => ∃ q', e = .returned (.agg #[.pointer q']) ∧ IsI w' q' (t.wo k) ∧ Fr (fun _ => False) W w' := by
  have f0 : Fr (fun _ => False) W ((W.alloc (.cells #[.pointer q] 40)).alloc (.cells #[.pointer none] 40)) := ((Fr.refl _ W).alloc _).alloc _
  have b00 : Blk ((W.alloc (.cells #[.pointer q] 40)).alloc (.cells #[.pointer none] 40)) W.heap.size [.pointer q] 40 := (Blk.at_new _ _ _ _ _ rfl rfl).alloc _
  have b0 : Blk ((W.alloc (.cells #[.pointer q] 40)).alloc (.cells #[.pointer none] 40)) (W.heap.size + 1) [.pointer none] 40 := Blk.at_new _ _ _ _ _ (by simp) rfl
  have h1 := h.new f0
  have C := Lib.hid (mget_any h1 k)
  clear h
  have hq0 := b00.cell 0 rfl
  go_enter Try.func21, Try.ntmps21
  go_wp2_with fail
  refine C.out.mono ?_
  rintro e w1 ⟨rfl, hf⟩
  have b1 := hf.blk b0 id
  have b10 := hf.blk b00 id
  have k1 := b1.cell 0 rfl
  have k1f := b1.free 0
  have k10 := b10.cell 0 rfl
  have hl := b1.lt
  have f1 := f0.trans hf (fun _ _ h => h)
  have h2 := h1.new hf
  clear hf f0 b0 b00 h1 C hq0
  cases hR : (t.get k).isSome with
  | false =>
    have e1 : Hid (t.wo k = t) := by unfold Hid Tr.wo; rw [hR]; rfl
    clear hR
    have hS : ∀ b cs, Blk w1 b cs 68 → ¬ (b = W.heap.size + 1) := fun b cs hb => hb.ne b1 (by decide)
    have f2 := (Fr.refl (fun b => b = W.heap.size + 1) w1).set1 0 (.pointer q)
    have b2 := (b1.set 0 (.pointer q)).cell 0 rfl
    go_wp2
    refine bodyPost_ret (v := .agg #[.pointer q]) (by simp [results, Try.results21, go_sem, b2]) rfl ⟨q, rfl, by rw [e1.out]; exact h2.fr f2 hS, f1.setCell _ _ (fun h => by simp only at h; omega)⟩
  | true =>
    have e1 : Hid (t.wo k = t.without k) := by unfold Hid Tr.wo; rw [hR]; rfl
    clear hR
    have C := Lib.hid (withoutI_any t k _ _ h2 hc)
    go_wp2_with fail
    refine C.out.mono ?_
    rintro e w3 ⟨q', rfl, hI, hf⟩
    have b3 := hf.blk b1 id
    have k3 := b3.cell 0 rfl
    have k3f := b3.free 0
    have hl3 := b3.lt
    have hS : ∀ b cs, Blk w3 b cs 68 → ¬ (b = W.heap.size + 1) := fun b cs hb => hb.ne b3 (by decide)
    have f2 := (Fr.refl (fun b => b = W.heap.size + 1) w3).set1 0 (.pointer q')
    have b2 := (b3.set 0 (.pointer q')).cell 0 rfl
    clear C h2
    go_wp2
    refine bodyPost_ret (v := .agg #[.pointer q']) (by simp [results, Try.results21, go_sem, b2]) rfl ⟨q', rfl, by rw [e1.out]; exact hI.fr f2 hS, (f1.trans hf (fun _ _ h => h)).setCell _ _ (fun h => by simp only at h; omega)⟩
end Go.Proofs.Ytkodepdbnkghfaa

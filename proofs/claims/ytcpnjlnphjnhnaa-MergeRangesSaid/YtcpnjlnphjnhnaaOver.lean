/- Cursors over lists. Conditions: those of the lemmas. -/
import Derived.Test.YtcpnjlnphjnhnaaCNext
import Derived.Test.YtcpnjlnphjnhnaaAppN
namespace Go.Proofs.Ytcpnjlnphjnhnaa
open Go.RowKit
theorem from_any {nx : Value} (h : nx = .nilFunc ∨ ∃ g lb, nx = .func (.func g) #[] lb) (W : World) : Calls Try.prog 23 #[nx] W fun en w' => ∃ cb, en = .returned (.pointer (some ⟨cb, 0, none⟩)) ∧ Blk w' cb (cur nx En.zero false 0 ⟨#[]⟩ false false) 57 ∧ Fr (fun _ => False) W w' ∧ W.heap.size ≤ cb := by
  rcases h with rfl | ⟨g, lb, rfl⟩
  · go_enter Try.func23, Try.ntmps23
    go_wp2
    go_ret
    exact ⟨_, rfl, Blk.at_new _ _ _ _ _ rfl rfl, (Fr.refl _ W).alloc _, Nat.le_refl _⟩
  · go_enter Try.func23, Try.ntmps23
    go_wp2
    go_ret
    exact ⟨_, rfl, Blk.at_new _ _ _ _ _ rfl rfl, (Fr.refl _ W).alloc _, Nat.le_refl _⟩
theorem RdE.tail {W : World} {ad : Addr} {x : En} {l : List En} (h : RdE W (some ad) (x :: l)) : RdE W (some ⟨ad.block, ad.off + 3, none⟩) l := by
  intro j v hv
  obtain ⟨ad', e, hc⟩ := h (3 + j) v (by
    have : (ens (x :: l)).flatten = enV x ++ (ens l).flatten := rfl
    rw [this, List.getElem?_append_right (by simp [enV])]
    simpa [enV] using hv)
  injection e with e
  subst e
  refine ⟨_, rfl, ?_⟩
  rw [← add_off (show (3 : Nat) ≠ 0 by decide), add_add]
  exact hc
/-- What Over's source holds. -/
structure OvI (ob : Nat) (Gb : Nat → Prop) (W : World) (l : List En) (e : Int) : Prop where
  err : e = 0
  few : l.length ≤ 1000000
  lt : ∀ k, Gb k → k < W.heap.size
  st : ∃ A cp, Blk W ob [.slice A l.length cp] 22 ∧ RdE W A l ∧ (∀ ad, A = some ad → Gb ad.block) ∧ l.length ≤ cp ∧ cp ≤ 9223372036854775807
theorem OvI.fr {ob : Nat} {Gb : Nat → Prop} {S : Nat → Prop} {W W' : World} {l : List En} {e : Int} (h : OvI ob Gb W l e) (hf : Fr S W W') (hS : ∀ k, k = ob ∨ Gb k → ¬ S k) : OvI ob Gb W' l e := by
  obtain ⟨h1, h2, h3, A, cp, hb, hr, ha, hc⟩ := h
  exact ⟨h1, h2, fun k hk => Nat.lt_of_lt_of_le (h3 k hk) hf.size, A, cp, hf.blk hb (hS _ (.inl rfl)), hr.fr hf (fun ad e => hS _ (.inr (ha ad e))), ha, hc⟩
set_option maxHeartbeats 1000000 in
set_option maxRecDepth 100000 in
theorem ov_end {ob : Nat} {Gb : Nat → Prop} {W : World} {e : Int} (h : OvI ob Gb W [] e) :
    Calls Try.prog 25 #[.pointer (some ⟨ob, 0, none⟩)] W fun en w' => en = .returned (.tuple #[.agg #[.string ⟨#[]⟩, .string ⟨#[]⟩, .bool false], .bool false, .int .i64 e]) ∧ Fr (fun k => k = ob ∨ Gb k) W w' := by
  obtain ⟨rfl, _, _, A, cp, hb, _⟩ := h
  have hr := Blk.at_new W [.string ⟨#[]⟩, .string ⟨#[]⟩, .bool false] 32 _ _ rfl rfl
  have hf := (Fr.refl (fun k => k = ob ∨ Gb k) W).alloc (.cells #[.string ⟨#[]⟩, .string ⟨#[]⟩, .bool false] 32)
  have k0 := (hb.alloc (.cells #[.string ⟨#[]⟩, .string ⟨#[]⟩, .bool false] 32)).cell 0 rfl
  simp only [List.length_nil] at k0
  go_enter Try.func25, Try.ntmps25
  go_upto_region 1 with fail
  simp only [List.toArray] at hr
  generalize W.alloc (.cells #[.string ⟨#[]⟩, .string ⟨#[]⟩, .bool false] 32) = w1 at hr hf k0 ⊢
  have c0 := hr.cell 0 rfl
  have c1 := hr.cell 1 rfl
  have c2 := hr.cell 2 rfl
  have f0 := hr.free 0
  have f1 := hr.free 1
  have f2 := hr.free 2
  have hl := hr.lt
  go_wp2
  refine bodyPost_ret (results_en rfl _ _ W.heap.size _ _ _ _ _ rfl (((hr.set 0 _).set 1 _).set 2 _) rfl rfl) rfl ⟨rfl, ?_⟩
  exact ((hf.setCell _ _ (fun h => by simp at h)).setCell _ _ (fun h => by simp at h)).setCell _ _ (fun h => by simp at h)
set_option maxHeartbeats 1000000 in
set_option maxRecDepth 100000 in
theorem ov_step {ob : Nat} {Gb : Nat → Prop} {W : World} {x : En} {l : List En} {e : Int} (hgb : ¬ Gb ob) (h : OvI ob Gb W (x :: l) e) :
    Calls Try.prog 25 #[.pointer (some ⟨ob, 0, none⟩)] W fun en w' => en = .returned (.tuple #[.agg #[.string x.key, .string x.val, .bool x.gone], .bool true, .int .i64 0]) ∧ OvI ob Gb w' l e ∧ Fr (fun k => k = ob ∨ Gb k) W w' := by
  obtain ⟨rfl, hfew, hglt, A, cp, hb, hR, ha, hc1, hc2⟩ := h
  obtain ⟨ad, rfl, a0, a1, a2⟩ := hR.cells (i := 0) rfl
  rw [Nat.zero_mul, show ad.add 0 = ad by simp [Addr.add]] at a0 a1 a2
  have hag := ha ad rfl
  have hr := Blk.at_new W [.string ⟨#[]⟩, .string ⟨#[]⟩, .bool false] 32 _ _ rfl rfl
  have hf := (Fr.refl (fun k => k = ob ∨ Gb k) W).alloc (.cells #[.string ⟨#[]⟩, .string ⟨#[]⟩, .bool false] 32)
  have g := (Fr.refl (fun _ => False) W).alloc (.cells #[.string ⟨#[]⟩, .string ⟨#[]⟩, .bool false] 32)
  have hb1 := g.blk hb id
  have a0 := g.cell a0 id
  have a1 := g.cell a1 id
  have a2 := g.cell a2 id
  have hR1 : RdE (W.alloc (.cells #[.string ⟨#[]⟩, .string ⟨#[]⟩, .bool false] 32)) (some ad) (x :: l) := hR.fr g (fun _ _ => id)
  have k0 := hb1.cell 0 rfl
  have kf := hb1.free 0
  have kl := hb1.lt
  simp only [List.length_cons] at k0 hc1 hfew
  have e1 : (0 : Int) < (l.length : Int) + 1 := by omega
  by_cases hcap : cp = 1
  · subst hcap
    obtain rfl : l = [] := List.eq_nil_of_length_eq_zero (by omega)
    simp only [List.length_nil, Nat.zero_add, Int.natCast_zero, Int.zero_add, Int.ofNat_zero] at k0 e1
    go_enter Try.func25, Try.ntmps25
    go_upto_region 1 with fail
    simp only [List.toArray] at hr
    generalize W.alloc (.cells #[.string ⟨#[]⟩, .string ⟨#[]⟩, .bool false] 32) = w1 at hr hf k0 kf kl g hb1 a0 a1 a2 hR1 ⊢
    have hne : W.heap.size ≠ ob := by have := hb.lt; omega
    generalize hrbe : W.heap.size = rb at hr hne ⊢
    have Hrb := Lib.hid hrbe
    clear hrbe
    have c0 := hr.cell 0 rfl
    have c1 := hr.cell 1 rfl
    have c2 := hr.cell 2 rfl
    have f0 := hr.free 0
    have f1 := hr.free 1
    have f2 := hr.free 2
    have hl := hr.lt
    have hoo : OvI ob Gb (w1.setCell ⟨ob, 0, none⟩ (.slice (some ad) 0 0)) [] 0 :=
      ⟨rfl, by omega, fun k hk => by have h1 := hglt k hk; have h2 := g.size; exact Nat.lt_of_lt_of_le (Nat.lt_of_lt_of_le h1 h2) ((Fr.refl (fun k => k = ob) w1).set1 0 _).size, some ad, 0, hb1.set 0 _, (fun j v hv => by simp [ens] at hv), (fun a h => by injection h with h; rw [← h]; exact hag), by simp, by omega⟩
    have HO := Lib.hid (And.intro hoo (And.intro (hf.setCell ⟨ob, 0, none⟩ (.slice (some ad) 0 0) (fun _ => .inl rfl)) (hr.other (a := ⟨ob, 0, none⟩) hne (.slice (some ad) 0 0))))
    have Hgb := Lib.hid hglt
    clear hoo hR1 hR hb hb1 g hf hr
    go_wp2
    generalize w1.setCell ⟨ob, 0, none⟩ (.slice (some ad) 0 0) = w2 at HO ⊢
    refine bodyPost_ret (results_en rfl _ _ rb _ _ _ _ _ rfl ((((HO.out.2.2.set 0 _).set 1 _).set 2 _).alloc _) rfl rfl) rfl ⟨rfl, ?_⟩
    have g4 : Fr (fun k => k = rb) w2 ((((w2.setCell ⟨rb, 0, none⟩ (.string x.key)).setCell ⟨rb, 1, none⟩ (.string x.val)).setCell ⟨rb, 2, none⟩ (.bool x.gone)).alloc (.cells #[.string x.key, .string x.val, .bool x.gone] 32)) := ((((Fr.refl _ w2).set1 _ _).set1 _ _).set1 _ _).alloc _
    exact ⟨HO.out.1.fr g4 (fun k hk hh => by
      subst hh
      rcases hk with hk | hk
      · exact hne hk
      · have := Hgb.out _ hk; have := Hrb.out; omega), HO.out.2.1.trans g4 (fun i hi hh => by have := Hrb.out; omega)⟩
  · have hcap2 : 1 < cp := by omega
    go_enter Try.func25, Try.ntmps25
    go_upto_region 1 with fail
    simp only [List.toArray] at hr
    generalize W.alloc (.cells #[.string ⟨#[]⟩, .string ⟨#[]⟩, .bool false] 32) = w1 at hr hf k0 kf kl g hb1 a0 a1 a2 hR1 ⊢
    have hne : W.heap.size ≠ ob := by have := hb.lt; omega
    generalize hrbe : W.heap.size = rb at hr hne ⊢
    have Hrb := Lib.hid hrbe
    clear hrbe
    have c0 := hr.cell 0 rfl
    have c1 := hr.cell 1 rfl
    have c2 := hr.cell 2 rfl
    have f0 := hr.free 0
    have f1 := hr.free 1
    have f2 := hr.free 2
    have hl := hr.lt
    have hoo : OvI ob Gb (w1.setCell ⟨ob, 0, none⟩ (.slice (some ⟨ad.block, ad.off + 3, none⟩) l.length (cp - 1))) l 0 :=
      ⟨rfl, by omega, fun k hk => by have h1 := hglt k hk; have h2 := g.size; exact Nat.lt_of_lt_of_le (Nat.lt_of_lt_of_le h1 h2) ((Fr.refl (fun k => k = ob) w1).set1 0 _).size, some ⟨ad.block, ad.off + 3, none⟩, cp - 1, hb1.set 0 _, Rd.fr hR1.tail ((Fr.refl (fun k => k = ob) w1).set1 0 _) (fun ad' e h => by injection e with e; subst e; exact hgb (by rw [← h]; exact hag)), (fun a h => by injection h with h; rw [← h]; exact hag), by omega, by omega⟩
    have HO := Lib.hid (And.intro hoo (And.intro (hf.setCell ⟨ob, 0, none⟩ (.slice (some ⟨ad.block, ad.off + 3, none⟩) l.length (cp - 1)) (fun _ => .inl rfl)) (hr.other (a := ⟨ob, 0, none⟩) hne (.slice (some ⟨ad.block, ad.off + 3, none⟩) l.length (cp - 1)))))
    have Hgb := Lib.hid hglt
    clear hoo hR1 hR hb hb1 g hf hr
    go_wp2
    generalize w1.setCell ⟨ob, 0, none⟩ (.slice (some ⟨ad.block, ad.off + 3, none⟩) l.length (cp - 1)) = w2 at HO ⊢
    refine bodyPost_ret (results_en rfl _ _ rb _ _ _ _ _ rfl ((((HO.out.2.2.set 0 _).set 1 _).set 2 _).alloc _) rfl rfl) rfl ⟨rfl, ?_⟩
    have g4 : Fr (fun k => k = rb) w2 ((((w2.setCell ⟨rb, 0, none⟩ (.string x.key)).setCell ⟨rb, 1, none⟩ (.string x.val)).setCell ⟨rb, 2, none⟩ (.bool x.gone)).alloc (.cells #[.string x.key, .string x.val, .bool x.gone] 32)) := ((((Fr.refl _ w2).set1 _ _).set1 _ _).set1 _ _).alloc _
    exact ⟨HO.out.1.fr g4 (fun k hk hh => by
      subst hh
      rcases hk with hk | hk
      · exact hne hk
      · have := Hgb.out _ hk; have := Hrb.out; omega), HO.out.2.1.trans g4 (fun i hi hh => by have := Hrb.out; omega)⟩
end Go.Proofs.Ytcpnjlnphjnhnaa

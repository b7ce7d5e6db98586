/- Cursors without what is gone. Conditions: those of the lemmas. -/
import Derived.Test.YtcpnjlnphjnhnaaLOver
import Derived.Deep.LoopGhost
namespace Go.Proofs.Ytcpnjlnphjnhnaa
open Go.RowKit
def live (l : List En) : List En := l.filter fun x => !x.gone
structure LvI (d : CD) (vb : Nat) (W : World) (l : List En) (e : Int) : Prop where
  blk : Blk W vb [.pointer (some ⟨d.cb, 0, none⟩)] 29
  st : ∃ l' pk, Cst d W l' e pk ∧ l = live l'
def lvF (d : CD) (vb : Nat) (k : Nat) : Prop := k = vb ∨ d.foot k
theorem LvI.fr {d : CD} (hd : SrcOk d) {vb : Nat} {S : Nat → Prop} {W W' : World} {l : List En} {e : Int} (h : LvI d vb W l e) (hf : Fr S W W') (hS : ∀ k, lvF d vb k → ¬ S k) : LvI d vb W' l e := by
  obtain ⟨h1, l', pk, h2, h3⟩ := h
  exact ⟨hf.blk h1 (hS _ (.inl rfl)), l', pk, h2.fr hd hf (fun k hk => hS k (.inr hk)), h3⟩
def LvQ (d : CD) (vb : Nat) (W : World) (l : List En) (e : Int) (en : Ending) (W' : World) : Prop :=
  Fr (lvF d vb) W W' ∧ ((l = [] ∧ en = .returned (.tuple #[.agg #[.string ⟨#[]⟩, .string ⟨#[]⟩, .bool false], .bool false, .int .i64 e])) ∨ ∃ x l0, l = x :: l0 ∧ en = .returned (.tuple #[.agg #[.string x.key, .string x.val, .bool x.gone], .bool true, .int .i64 0]) ∧ LvI d vb W' l0 e)
set_option maxHeartbeats 1000000 in
set_option maxRecDepth 100000 in
theorem lv_any {d : CD} (hd : SrcOk d) {vb : Nat} (hv : ¬ d.foot vb) {W : World} {l : List En} {e : Int} (h : LvI d vb W l e) : Calls Try.prog 27 #[.pointer (some ⟨vb, 0, none⟩)] W (LvQ d vb W l e) := by
  obtain ⟨hvb, l', pk, hc, hl⟩ := h
  have hr := Blk.at_new W [.string ⟨#[]⟩, .string ⟨#[]⟩, .bool false] 32 _ _ rfl rfl
  have g := (Fr.refl (fun _ => False) W).alloc (.cells #[.string ⟨#[]⟩, .string ⟨#[]⟩, .bool false] 32)
  have hvb1 := g.blk hvb id
  have hc1 := hc.new hd g
  have hlt := hc.foot_lt
  have hvl := hvb.lt
  have Hd := Lib.hid hd
  go_enter Try.func27, Try.ntmps27
  go_wp2_with fail
  simp only [List.toArray] at hr
  generalize W.alloc (.cells #[.string ⟨#[]⟩, .string ⟨#[]⟩, .bool false] 32) = w1 at hr g hvb1 hc1 ⊢
  have hrf : ¬ lvF d vb W.heap.size := by
    rintro (h | h)
    · omega
    · have := hlt _ h; omega
  have g1 : Fr (lvF d vb) W w1 := g.mono (fun _ _ h => h.elim)
  clear g hc hvb hlt hvl hd
  generalize hrx : W.heap.size = rx at hr hrf ⊢
  have Hrx := Lib.hid hrx
  clear hrx
  go_loopg [] l'.length (fun n wr => ∃ l2 pk2, l2.length ≤ n ∧ live l2 = l ∧ Cst d wr l2 e pk2 ∧ Blk wr vb [.pointer (some ⟨d.cb, 0, none⟩)] 29 ∧ Blk wr rx [.string ⟨#[]⟩, .string ⟨#[]⟩, .bool false] 32 ∧ Fr (lvF d vb) W wr)
  case atStart => exact ⟨l', pk, Nat.le_refl _, hl.symm, hc1, hvb1, hr, g1⟩
  case round =>
    clear hc1 hvb1 hr g1 hl
    obtain ⟨l2, pk2, hn, hl2, hC, hV, hR, hF⟩ := hrel
    have k0 := hV.cell 0 rfl
    have HV := Lib.hid (And.intro hV (And.intro hR hF))
    have Hl := Lib.hid (And.intro hn hl2)
    clear hV hR hF hn hl2
    rcases l2 with _ | ⟨x, l2⟩
    · have HN := Lib.hid (cnext_end Hd.out hC)
      clear hC
      go_wp2_with fail
      refine HN.out.mono ?_
      rintro en w4 ⟨rfl, hC4, hf4⟩
      obtain ⟨hV, hR, hF⟩ := HV.out
      have hV4 := hf4.blk hV hv
      have hR4 := hf4.blk hR (fun h => hrf (.inr h))
      have hF4 := hF.trans hf4 (fun _ _ h => .inr h)
      have c0 := hR4.cell 0 rfl
      have c1 := hR4.cell 1 rfl
      have c2 := hR4.cell 2 rfl
      have f0 := hR4.free 0
      have f1 := hR4.free 1
      have f2 := hR4.free 2
      have hl := hR4.lt
      have H4 := Lib.hid (And.intro hR4 hF4)
      clear hV hR hF hV4 hR4 hF4 hf4 hC4 HN HV k0
      go_wp2
      refine bodyPost_ret (results_en rfl _ _ rx _ _ _ _ _ rfl ((((H4.out.1.set 0 _).set 1 _).set 2 _).alloc _) rfl rfl) rfl ⟨?_, .inl ⟨by rw [← Hl.out.2]; rfl, rfl⟩⟩
      exact (((H4.out.2.setCell _ _ (fun h => by have := Hrx.out; simp only at h; omega)).setCell _ _ (fun h => by have := Hrx.out; simp only at h; omega)).setCell _ _ (fun h => by have := Hrx.out; simp only at h; omega)).alloc _
    · have HN := Lib.hid (cnext_some Hd.out hC)
      clear hC
      go_wp2_with fail
      refine HN.out.mono ?_
      rintro en w4 ⟨rfl, hC4, hf4⟩
      obtain ⟨hV, hR, hF⟩ := HV.out
      have hV4 := hf4.blk hV hv
      have hR4 := hf4.blk hR (fun h => hrf (.inr h))
      have hF4 := hF.trans hf4 (fun _ _ h => .inr h)
      have c0 := hR4.cell 0 rfl
      have c1 := hR4.cell 1 rfl
      have c2 := hR4.cell 2 rfl
      have f0 := hR4.free 0
      have f1 := hR4.free 1
      have f2 := hR4.free 2
      have hl := hR4.lt
      have H4 := Lib.hid (And.intro hR4 (And.intro hF4 (And.intro hV4 hC4)))
      clear hV hR hF hV4 hR4 hF4 hf4 hC4 HN HV k0
      obtain ⟨xk, xv, xg⟩ := x
      cases xg
      · simp only
        go_wp2
        obtain ⟨hR4, hF4, hV4, hC4⟩ := H4.out
        refine bodyPost_ret (results_en rfl _ _ rx _ _ _ _ _ rfl ((((hR4.set 0 _).set 1 _).set 2 _).alloc _) rfl rfl) rfl ⟨?_, .inr ⟨⟨xk, xv, false⟩, live l2, by rw [← Hl.out.2]; rfl, rfl, ?_⟩⟩
        · exact (((hF4.setCell _ _ (fun h => by have := Hrx.out; simp only at h; omega)).setCell _ _ (fun h => by have := Hrx.out; simp only at h; omega)).setCell _ _ (fun h => by have := Hrx.out; simp only at h; omega)).alloc _
        · have g4 : Fr (fun k => k = rx) w4 ((((w4.setCell ⟨rx, 0, none⟩ (.string xk)).setCell ⟨rx, 1, none⟩ (.string xv)).setCell ⟨rx, 2, none⟩ (.bool false)).alloc (.cells #[.string xk, .string xv, .bool false] 32)) := ((((Fr.refl _ w4).set1 _ _).set1 _ _).set1 _ _).alloc _
          exact LvI.fr Hd.out ⟨hV4, l2, false, hC4, rfl⟩ g4 (fun k hk hh => hrf (by rw [← hh]; exact hk))
      · simp only
        go_wp2
        go_roundg l2.length
        case measure =>
          have := Hl.out.1
          simp only [List.length_cons] at this
          omega
        case rel =>
          obtain ⟨hR4, hF4, hV4, hC4⟩ := H4.out
          have ga := (Fr.refl (fun _ => False) w4).alloc (.cells #[.string xk, .string xv, .bool true] 32)
          exact ⟨l2, false, Nat.le_refl _, by rw [← Hl.out.2]; rfl, hC4.new Hd.out ga, ga.blk hV4 id, ga.blk hR4 id, hF4.alloc _⟩
theorem lv_src {d : CD} (hd : SrcOk d) {vb cb : Nat} (h1 : ¬ d.foot vb) (h2 : ¬ lvF d vb cb) : SrcOk ⟨cb, .func (.func 27) #[] #[.pointer (some ⟨vb, 0, none⟩)], lvF d vb, LvI d vb⟩ :=
  ⟨fun hI hf hS => hI.fr hd hf hS, h2, .inr ⟨27, _, rfl, enters Try.func27 (by kernel_rfl) rfl, fun W x l e hI => (lv_any hd h1 hI).mono (by
    rintro en W' ⟨hf, ⟨h, _⟩ | ⟨y, l0, h, rfl, hI'⟩⟩
    · cases h
    · injection h with h1 h2
      subst h1
      subst h2
      exact ⟨rfl, hI', hf⟩), fun W e hI => (lv_any hd h1 hI).mono (by
    rintro en W' ⟨hf, ⟨_, rfl⟩ | ⟨y, l0, h, _⟩⟩
    · exact ⟨rfl, hf⟩
    · cases h)⟩⟩
theorem live_any {d : CD} (hd : SrcOk d) {W : World} {l : List En} {e : Int} {pk : Bool} (h : Cst d W l e pk) : Calls Try.prog 14 #[.pointer (some ⟨d.cb, 0, none⟩)] W (Made W d.foot (told none (live l) e).1 (told none (live l) e).2) := by
  have hmf : ∀ (fn : Fn) (first cap : Array Value) (w : World), (Instr.makeFunc fn first cap).run Try.prog w = .ok (.func fn first cap) w := fun _ _ _ _ => rfl
  have hb := Blk.at_new W [.pointer (some ⟨d.cb, 0, none⟩)] 29 _ _ rfl rfl
  have g := (Fr.refl (fun _ => False) W).alloc (.cells #[.pointer (some ⟨d.cb, 0, none⟩)] 29)
  have hlt := h.foot_lt
  have Hd := Lib.hid (And.intro hd (And.intro hb (And.intro g (And.intro (h.new hd g) hlt))))
  clear h hd hb g hlt
  go_enter Try.func14, Try.ntmps14
  go_wp2_with fail
  refine (from_any (.inr ⟨_, _, rfl⟩) _).mono ?_
  rintro en w3 ⟨cb, rfl, hcb, hf3, hcn⟩
  obtain ⟨hd, hb, g, hc, hlt⟩ := Hd.out
  have hz : (W.alloc (.cells #[.pointer (some ⟨d.cb, 0, none⟩)] 29)).heap.size = W.heap.size + 1 := by simp
  have hf2 : Fr (fun _ => False) W w3 := g.trans hf3 (fun _ _ h => h)
  have hs3 := hf3.size
  have hM := made (d := ⟨cb, .func (.func 27) #[] #[.pointer (some ⟨W.heap.size, 0, none⟩)], lvF d W.heap.size, LvI d W.heap.size⟩)
    (lv_src hd (fun h => by have := hlt _ h; omega) (by rintro (h | h); omega; have := hlt _ h; omega)) (W := W) (W' := w3) (P := d.foot) (l0 := live l) (e0 := e)
    ⟨hf3.blk hb id, l, pk, hc.new hd hf3, rfl⟩ (by rintro k (h | h); omega; have := hlt _ h; omega) hcb hf2 (by
      rintro k (h | h | h)
      · left; have : k = cb := h; omega
      · left; omega
      · right; exact h)
  have HM := Lib.hid hM
  clear Hd hcb hf3 hb g hc hlt hM hf2
  go_wp2
  go_ret
  exact HM.out
end Go.Proofs.Ytcpnjlnphjnhnaa

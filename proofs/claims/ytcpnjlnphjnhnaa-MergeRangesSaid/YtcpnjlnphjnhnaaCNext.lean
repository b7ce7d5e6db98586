/- A cursor's Next. Conditions: those of the lemmas. -/
import Derived.Test.YtcpnjlnphjnhnaaFill
namespace Go.Proofs.Ytcpnjlnphjnhnaa
open Go.RowKit
theorem results_en {fn : Func} {p a b : Tmp} (h : fn.results = #[.cell p 32, .tmp a, .tmp b]) (tmps : Array Value) (w : World) (g : Nat) (x y z u v : Value) (hp : tmps.getD p undef = .pointer (some ⟨g, 0, none⟩)) (hg : Blk w g [x, y, z] 32) (ha : tmps.getD a undef = u) (hb : tmps.getD b undef = v) :
    (results fn tmps).run Try.prog w = .ok (.tuple #[.agg #[x, y, z], u, v]) w := by
  have hp' : tmps[p]?.getD undef = .pointer (some ⟨g, 0, none⟩) := by simpa using hp
  have ha' : tmps[a]?.getD undef = u := by simpa using ha
  have hb' : tmps[b]?.getD undef = v := by simpa using hb
  have hl := run_loadVar_row (P := Try.prog) w g 32 32 #[x, y, z] (0, 0) _ hg Try.underlying32 rfl (by kernel_rfl)
  simp [results, h, hp', ha', hb', asAddr, hl]
set_option maxRecDepth 100000 in
theorem cnext_nil (W : World) : Calls Try.prog 21 #[.pointer none] W fun en w' => en = .returned (.tuple #[.agg #[.string ⟨#[]⟩, .string ⟨#[]⟩, .bool false], .bool false, .int .i64 0]) ∧ Fr (fun _ => False) W w' := by
  have hb := Blk.at_new W [.string ⟨#[]⟩, .string ⟨#[]⟩, .bool false] 32 _ _ rfl rfl
  have hf := (Fr.refl (fun _ => False) W).alloc (.cells #[.string ⟨#[]⟩, .string ⟨#[]⟩, .bool false] 32)
  go_enter Try.func21, Try.ntmps21
  go_wp2_with fail
  refine (fill_nil _).mono ?_
  rintro e w' ⟨rfl, rfl⟩
  simp only [List.toArray] at hb
  have hl := hb.lt
  generalize W.alloc (.cells #[.string ⟨#[]⟩, .string ⟨#[]⟩, .bool false] 32) = w1 at hb hf hl ⊢
  have c0 := hb.cell 0 rfl
  have c1 := hb.cell 1 rfl
  have c2 := hb.cell 2 rfl
  have f0 := hb.free 0
  have f1 := hb.free 1
  have f2 := hb.free 2
  go_wp2
  refine bodyPost_ret (results_en rfl _ _ W.heap.size _ _ _ _ _ rfl (((hb.set 0 _).set 1 _).set 2 _) rfl rfl) rfl ⟨rfl, ?_⟩
  exact ((hf.setCell _ _ (fun h => by simp at h)).setCell _ _ (fun h => by simp at h)).setCell _ _ (fun h => by simp at h)
set_option maxHeartbeats 1000000 in
set_option maxRecDepth 100000 in
theorem cnext_some {d : CD} (hd : SrcOk d) {W : World} {x : En} {l : List En} {e : Int} {pk : Bool} (h : Cst d W (x :: l) e pk) :
    Calls Try.prog 21 #[.pointer (some ⟨d.cb, 0, none⟩)] W fun en w' => en = .returned (.tuple #[.agg #[.string x.key, .string x.val, .bool x.gone], .bool true, .int .i64 0]) ∧ Cst d w' l e false ∧ Fr d.foot W w' := by
  have hb := Blk.at_new W [.string ⟨#[]⟩, .string ⟨#[]⟩, .bool false] 32 _ _ rfl rfl
  have hf := (Fr.refl (fun _ => False) W).alloc (.cells #[.string ⟨#[]⟩, .string ⟨#[]⟩, .bool false] 32)
  have hlt := h.foot_lt
  have HF := Lib.hid (fill_any hd (h.new hd hf))
  go_enter Try.func21, Try.ntmps21
  go_wp2_with fail
  refine HF.out.mono ?_
  rintro en W2 ⟨rfl, hs, hf2⟩
  simp only [List.toArray] at hb
  generalize W.alloc (.cells #[.string ⟨#[]⟩, .string ⟨#[]⟩, .bool false] 32) = w1 at hb hf hf2
  clear HF h
  have hb2 := hf2.blk hb (fun hh => by have := hlt _ hh; omega)
  have hfr : Fr d.foot W W2 := (hf.mono (fun _ _ h => h.elim)).trans hf2 (fun _ _ h => h)
  have hrb : ¬ d.foot W.heap.size := fun hh => by have := hlt _ hh; omega
  clear hb hf hf2 hlt
  generalize hrbe : W.heap.size = rb at hb2 hrb ⊢
  have Hrb := Lib.hid hrbe
  clear hrbe
  simp only [List.isEmpty_cons, Bool.not_false]
  obtain ⟨hl, h0, hv, f, last, bg, dn, hc, hcase⟩ := hs
  rcases hcase with ⟨_, _, _, a4, _⟩ | ⟨rfl, rfl, rfl, _, rfl, rfl, l0, e0, l', hI, ht, hxl⟩ | ⟨_, _, _, _, a5⟩
  · cases a4
  · injection hxl with hx1 hx2
    subst hx1
    subst hx2
    have hne : rb ≠ d.cb := fun e => hrb (.inl e)
    have c4 := hc.cell 4 rfl
    have f4 := hc.free 4
    have hcl := hc.lt
    have hc2 := hc.set 4 (.bool false)
    have d1 := hc2.cell 1 rfl
    have d2 := hc2.cell 2 rfl
    have d3 := hc2.cell 3 rfl
    have hb3 := hb2.other (a := ⟨d.cb, 4, none⟩) hne (.bool false)
    have g : Fr (fun k => k = d.cb) W2 (W2.setCell ⟨d.cb, 4, none⟩ (.bool false)) := (Fr.refl _ W2).set1 _ _
    have hst : Cst d (W2.setCell ⟨d.cb, 4, none⟩ (.bool false)) l e false :=
      ⟨fun k hk => Nat.lt_of_lt_of_le (hl k hk) g.size, x, false, 0, x.key, true, false, hc2, .inl ⟨rfl, rfl, rfl, rfl, l0, e0, hd.fr hI g (fun k hk hh => hd.ne (by rw [← hh]; exact hk)), ht⟩⟩
    have g2 := hfr.trans g (fun i _ h => .inl h)
    have k0 := hb3.cell 0 rfl
    have k1 := hb3.cell 1 rfl
    have k2 := hb3.cell 2 rfl
    have f0 := hb3.free 0
    have f1 := hb3.free 1
    have f2 := hb3.free 2
    have hbl := hb3.lt
    have HH := Lib.hid (And.intro hst (And.intro g2 hb3))
    have Hd := Lib.hid hd
    have Hne := Lib.hid hrb
    clear hst g2 hb3 hb2 hc hc2 g hI ht hl hfr hd
    go_wp2
    generalize W2.setCell ⟨d.cb, 4, none⟩ (.bool false) = W3 at HH ⊢
    refine bodyPost_ret (results_en rfl _ _ rb _ _ _ _ _ rfl (((HH.out.2.2.set 0 _).set 1 _).set 2 _) rfl rfl) rfl ⟨rfl, ?_⟩
    have g4 : Fr (fun k => k = rb) W3 (((W3.setCell ⟨rb, 0, none⟩ (.string x.key)).setCell ⟨rb, 1, none⟩ (.string x.val)).setCell ⟨rb, 2, none⟩ (.bool x.gone)) := (((Fr.refl _ W3).set1 _ _).set1 _ _).set1 _ _
    exact ⟨HH.out.1.fr Hd.out g4 (fun k hk hh => Hne.out (by rw [← hh]; exact hk)), HH.out.2.1.trans g4 (fun i hi hh => by have := Hrb.out; omega)⟩
  · cases a5
set_option maxHeartbeats 1000000 in
set_option maxRecDepth 100000 in
theorem cnext_end {d : CD} (hd : SrcOk d) {W : World} {e : Int} {pk : Bool} (h : Cst d W [] e pk) :
    Calls Try.prog 21 #[.pointer (some ⟨d.cb, 0, none⟩)] W fun en w' => en = .returned (.tuple #[.agg #[.string ⟨#[]⟩, .string ⟨#[]⟩, .bool false], .bool false, .int .i64 e]) ∧ Cst d w' [] e true ∧ Fr d.foot W w' := by
  have hb := Blk.at_new W [.string ⟨#[]⟩, .string ⟨#[]⟩, .bool false] 32 _ _ rfl rfl
  have hf := (Fr.refl (fun _ => False) W).alloc (.cells #[.string ⟨#[]⟩, .string ⟨#[]⟩, .bool false] 32)
  have hlt := h.foot_lt
  have HF := Lib.hid (fill_any hd (h.new hd hf))
  go_enter Try.func21, Try.ntmps21
  go_wp2_with fail
  refine HF.out.mono ?_
  rintro en W2 ⟨rfl, hs, hf2⟩
  simp only [List.toArray] at hb
  generalize W.alloc (.cells #[.string ⟨#[]⟩, .string ⟨#[]⟩, .bool false] 32) = w1 at hb hf hf2
  clear HF h
  have hb2 := hf2.blk hb (fun hh => by have := hlt _ hh; omega)
  have hfr : Fr d.foot W W2 := (hf.mono (fun _ _ h => h.elim)).trans hf2 (fun _ _ h => h)
  have hrb : ¬ d.foot W.heap.size := fun hh => by have := hlt _ hh; omega
  clear hb hf hf2 hlt
  generalize hrbe : W.heap.size = rb at hb2 hrb ⊢
  have Hrb := Lib.hid hrbe
  clear hrbe
  simp only [List.isEmpty_nil, Bool.not_true]
  have Hs := Lib.hid hs
  obtain ⟨hl, h0, hv, f, last, bg, dn, hc, hcase⟩ := hs
  rcases hcase with ⟨_, _, _, a4, _⟩ | ⟨_, _, _, _, _, _, l0, e0, l', _, _, hxl⟩ | ⟨rfl, rfl, rfl, _, _⟩
  · cases a4
  · cases hxl
  · have hne : rb ≠ d.cb := fun e => hrb (.inl e)
    have c5 := hc.cell 5 rfl
    have k0 := hb2.cell 0 rfl
    have k1 := hb2.cell 1 rfl
    have k2 := hb2.cell 2 rfl
    have f0 := hb2.free 0
    have f1 := hb2.free 1
    have f2 := hb2.free 2
    have hbl := hb2.lt
    have HH := Lib.hid (And.intro hfr hb2)
    have Hd := Lib.hid hd
    have Hne := Lib.hid hrb
    clear hb2 hc hl hfr hd
    go_upto_region 4 with fail
    go_region
    go_wp2
    have g4 : Fr (fun k => k = rb) W2 (((W2.setCell ⟨rb, 0, none⟩ (.string ⟨#[]⟩)).setCell ⟨rb, 1, none⟩ (.string ⟨#[]⟩)).setCell ⟨rb, 2, none⟩ (.bool false)).drew := ((((Fr.refl _ W2).set1 _ _).set1 _ _).set1 _ _).drew
    refine bodyPost_ret (results_en rfl _ _ rb _ _ _ _ _ rfl (((HH.out.2.set 0 _).set 1 _).set 2 _).drew rfl rfl) rfl ⟨rfl, ?_⟩
    exact ⟨Hs.out.fr Hd.out g4 (fun k hk hh => Hne.out (by rw [← hh]; exact hk)), HH.out.1.trans g4 (fun i hi hh => by have := Hrb.out; omega)⟩
end Go.Proofs.Ytcpnjlnphjnhnaa

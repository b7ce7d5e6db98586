/- The law's cursors over rows. Conditions: those of the lemmas. -/
import Derived.Test.YtcpnjlnphjnhnaaMk
namespace Go.Proofs.Ytcpnjlnphjnhnaa
open Go.RowKit
/-- What the law's source holds. -/
structure LoI (eb ab ob rb : Nat) (Gb : Nat → Prop) (own : List En) (W : World) (l : List En) (e : Int) : Prop where
  few : own.length ≤ 1000000
  lt : ∀ k, Gb k → k < W.heap.size
  end_ : Blk W eb [.bool false] 4
  row : ∃ rv, Blk W rb [rv, .int .i64 e] 24
  st : ∃ (i : Nat) (A : Option Addr) (cp : Nat), Blk W ab [.int .i64 (i : Int)] 3 ∧ Blk W ob [.slice A own.length cp] 22 ∧ RdE W A own ∧ (∀ ad, A = some ad → Gb ad.block) ∧ i ≤ own.length ∧ l = own.drop i
def loF (eb ab ob rb : Nat) (Gb : Nat → Prop) (k : Nat) : Prop := k = eb ∨ k = ab ∨ k = ob ∨ k = rb ∨ Gb k
theorem LoI.fr {eb ab ob rb : Nat} {Gb : Nat → Prop} {own : List En} {S : Nat → Prop} {W W' : World} {l : List En} {e : Int} (h : LoI eb ab ob rb Gb own W l e) (hf : Fr S W W') (hS : ∀ k, loF eb ab ob rb Gb k → ¬ S k) : LoI eb ab ob rb Gb own W' l e := by
  obtain ⟨h1, h2, h3, ⟨rv, h4⟩, i, A, cp, a1, a2, a3, a4, a5, a6⟩ := h
  exact ⟨h1, fun k hk => Nat.lt_of_lt_of_le (h2 k hk) hf.size, hf.blk h3 (hS _ (.inl rfl)), ⟨rv, hf.blk h4 (hS _ (.inr (.inr (.inr (.inl rfl)))))⟩, i, A, cp, hf.blk a1 (hS _ (.inr (.inl rfl))), hf.blk a2 (hS _ (.inr (.inr (.inl rfl)))), a3.fr hf (fun ad e => hS _ (.inr (.inr (.inr (.inr (a4 ad e)))))), a4, a5, a6⟩
set_option maxHeartbeats 1000000 in
set_option maxRecDepth 100000 in
theorem lo_end {eb ab ob rb : Nat} {Gb : Nat → Prop} {own : List En} {W : World} {e : Int} (h : LoI eb ab ob rb Gb own W [] e) :
    Calls Try.prog 26 #[.pointer (some ⟨eb, 0, none⟩), .pointer (some ⟨ab, 0, none⟩), .pointer (some ⟨ob, 0, none⟩), .pointer (some ⟨rb, 0, none⟩)] W fun en w' => en = .returned (.tuple #[.agg #[.string ⟨#[]⟩, .string ⟨#[]⟩, .bool false], .bool false, .int .i64 e]) ∧ Fr (loF eb ab ob rb Gb) W w' := by
  obtain ⟨hfew, hglt, he, ⟨rv, hrb⟩, i, A, cp, ha, ho, hR, hA, hi, hd⟩ := h
  have hi2 : i = own.length := by
    have := congrArg List.length hd
    simp at this
    omega
  subst hi2
  have hr := Blk.at_new W [.string ⟨#[]⟩, .string ⟨#[]⟩, .bool false] 32 _ _ rfl rfl
  have g := (Fr.refl (fun _ => False) W).alloc (.cells #[.string ⟨#[]⟩, .string ⟨#[]⟩, .bool false] 32)
  have he1 := g.blk he id
  have ha1 := g.blk ha id
  have ho1 := g.blk ho id
  have hrb1 := g.blk hrb id
  have n1 := he.lt
  have n2 := ha.lt
  have n3 := hrb.lt
  go_enter Try.func26, Try.ntmps26
  go_upto_region 1 with fail
  simp only [List.toArray] at hr
  generalize W.alloc (.cells #[.string ⟨#[]⟩, .string ⟨#[]⟩, .bool false] 32) = w1 at hr g he1 ha1 ho1 hrb1 ⊢
  have m1 : eb ≠ ab := he1.ne ha1 (by decide)
  have m2 : W.heap.size ≠ eb := by omega
  have m3 : W.heap.size ≠ ab := by omega
  have m4 : rb ≠ ab := hrb1.ne ha1 (by decide)
  have m5 : rb ≠ eb := hrb1.ne he1 (by decide)
  have m6 : ob ≠ ab := ho1.ne ha1 (by decide)
  have m7 : rb ≠ W.heap.size := by omega
  have k1 := he1.cell 0 rfl
  have k1f := he1.free 0
  have k1l := he1.lt
  have k2 := ha1.cell 0 rfl
  have k2f := ha1.free 0
  have k2l := ha1.lt
  have k3 := ho1.cell 0 rfl
  have k4 := hrb1.cell 1 rfl
  have c0 := hr.cell 0 rfl
  have c1 := hr.cell 1 rfl
  have c2 := hr.cell 2 rfl
  have f0 := hr.free 0
  have f1 := hr.free 1
  have f2 := hr.free 2
  have hl := hr.lt
  have t1 : (own.length : Int) < (own.length : Int) + 1 := by omega
  have t2 : IntKind.i64.wrap ((own.length : Int) + 1) = (own.length : Int) + 1 := IntWalk.i64_in _ (by omega)
  have H := Lib.hid (And.intro g hr)
  generalize hrx : W.heap.size = rx at m2 m3 m7 c0 c1 c2 f0 f1 f2 hl H ⊢
  have Hrx := Lib.hid hrx
  clear hr g he1 ha1 ho1 hrb1 hrx he ha ho hrb
  go_upto_region 6 with fail
  go_region
  go_wp2
  obtain ⟨g, hr⟩ := H.out
  have hrx := Hrx.out
  refine bodyPost_ret (results_en rfl _ _ rx _ _ _ _ _ rfl ((((((hr.other (a := ⟨ab, 0, none⟩) m3 _).other (a := ⟨eb, 0, none⟩) m2 _).set 0 _).set 1 _).set 2 _).drew) rfl rfl) rfl ⟨rfl, ?_⟩
  exact (((((((g.mono (fun _ _ h => h.elim)).setCell _ _ (fun _ => .inr (.inl rfl))).setCell _ _ (fun _ => .inl rfl)).setCell _ _ (fun h => by simp only at h; omega)).setCell _ _ (fun h => by simp only at h; omega)).setCell _ _ (fun h => by simp only at h; omega)).drew)
set_option maxHeartbeats 1000000 in
set_option maxRecDepth 100000 in
theorem lo_step {eb ab ob rb : Nat} {Gb : Nat → Prop} {own : List En} (hgab : ¬ Gb ab) {W : World} {x : En} {l : List En} {e : Int} (h : LoI eb ab ob rb Gb own W (x :: l) e) :
    Calls Try.prog 26 #[.pointer (some ⟨eb, 0, none⟩), .pointer (some ⟨ab, 0, none⟩), .pointer (some ⟨ob, 0, none⟩), .pointer (some ⟨rb, 0, none⟩)] W fun en w' => en = .returned (.tuple #[.agg #[.string x.key, .string x.val, .bool x.gone], .bool true, .int .i64 0]) ∧ LoI eb ab ob rb Gb own w' l e ∧ Fr (loF eb ab ob rb Gb) W w' := by
  obtain ⟨hfew, hglt, he, ⟨rv, hrb⟩, i, A, cp, ha, ho, hR, hA, hi, hd⟩ := h
  have hx : own[i]? = some x := by
    have := congrArg (fun l => l[0]?) hd
    simpa using this.symm
  have hil := (List.getElem?_eq_some_iff.1 hx).1
  have hd2 : l = own.drop (i + 1) := by
    have := congrArg List.tail hd
    simpa using this
  have hr := Blk.at_new W [.string ⟨#[]⟩, .string ⟨#[]⟩, .bool false] 32 _ _ rfl rfl
  have g := (Fr.refl (fun _ => False) W).alloc (.cells #[.string ⟨#[]⟩, .string ⟨#[]⟩, .bool false] 32)
  have he1 := g.blk he id
  have ha1 := g.blk ha id
  have ho1 := g.blk ho id
  have hrb1 := g.blk hrb id
  have hR1 : RdE _ A own := hR.fr g (fun _ _ => id)
  have n1 := he.lt
  have n2 := ha.lt
  have n3 := hrb.lt
  go_enter Try.func26, Try.ntmps26
  go_upto_region 1 with fail
  simp only [List.toArray] at hr
  generalize W.alloc (.cells #[.string ⟨#[]⟩, .string ⟨#[]⟩, .bool false] 32) = w1 at hr g he1 ha1 ho1 hrb1 hR1 ⊢
  have m3 : W.heap.size ≠ ab := by omega
  have m6 : ob ≠ ab := ho1.ne ha1 (by decide)
  have k1 := he1.cell 0 rfl
  have k2 := ha1.cell 0 rfl
  have k2f := ha1.free 0
  have k2l := ha1.lt
  have k3 := ho1.cell 0 rfl
  have c0 := hr.cell 0 rfl
  have c1 := hr.cell 1 rfl
  have c2 := hr.cell 2 rfl
  have f0 := hr.free 0
  have f1 := hr.free 1
  have f2 := hr.free 2
  have hl := hr.lt
  have t1 : ¬ ((own.length : Int) < (i : Int) + 1) := by omega
  have t2 : IntKind.i64.wrap ((i : Int) + 1) = (i : Int) + 1 := IntWalk.i64_in _ (by omega)
  have t3 : IntKind.i64.wrap ((i : Int) + 1 - 1) = (i : Int) := by rw [show (i : Int) + 1 - 1 = (i : Int) by omega]; exact IntWalk.i64_in _ (by omega)
  have t4 : (i : Int) < (own.length : Int) := by omega
  obtain ⟨ad, rfl, a0, a1, a2⟩ := hR1.cells hx
  have hag := hA ad rfl
  have m7 : ad.block ≠ ab := fun h => hgab (by rw [← h]; exact hag)
  have m8 : (ad.add (i * 3)).block ≠ ab := by rw [add_block]; exact m7
  have gs := (Fr.refl (fun k => k = ab) w1).set1 0 (.int .i64 ((i : Int) + 1))
  have a0 := gs.cell a0 m8
  have a1 := gs.cell a1 m8
  have a2 := gs.cell a2 m8
  clear gs
  have H := Lib.hid (And.intro g (And.intro hr (And.intro he1 (And.intro ha1 (And.intro ho1 (And.intro hrb1 hR1))))))
  generalize hrx : W.heap.size = rx at m3 c0 c1 c2 f0 f1 f2 hl H ⊢
  have Hrx := Lib.hid hrx
  have Hd := Lib.hid (And.intro hd2 (And.intro hA hglt))
  clear hr g he1 ha1 ho1 hrb1 hrx he ha ho hrb hR1 hR hd hd2 hA hglt
  go_wp2
  obtain ⟨g, hr, he1, ha1, ho1, hrb1, hR1⟩ := H.out
  obtain ⟨hd2, hA, hglt⟩ := Hd.out
  have hrx := Hrx.out
  refine bodyPost_ret (results_en rfl _ _ rx _ _ _ _ _ rfl ((((hr.other (a := ⟨ab, 0, none⟩) m3 _).set 0 _).set 1 _).set 2 _) rfl rfl) rfl ⟨rfl, ?_⟩
  have g5 : Fr (fun k => k = ab ∨ k = rx) w1 ((((w1.setCell ⟨ab, 0, none⟩ (.int .i64 ((i : Int) + 1))).setCell ⟨rx, 0, none⟩ (.string x.key)).setCell ⟨rx, 1, none⟩ (.string x.val)).setCell ⟨rx, 2, none⟩ (.bool x.gone)) :=
    ((((Fr.refl _ w1).setCell _ _ (fun _ => .inl rfl)).setCell _ _ (fun _ => .inr rfl)).setCell _ _ (fun _ => .inr rfl)).setCell _ _ (fun _ => .inr rfl)
  have hsz := g.size
  have hsz2 := g5.size
  refine ⟨⟨hfew, fun k hk => by have := hglt k hk; omega, g5.blk he1 ?_, ⟨rv, g5.blk hrb1 ?_⟩, i + 1, some ad, cp, ?_, g5.blk ho1 ?_, hR1.fr g5 ?_, hA, by omega, hd2⟩, (g.mono (fun _ _ h => h.elim)).trans g5 ?_⟩
  · rintro (h | h)
    · exact (he1.ne ha1 (by decide)) h
    · omega
  · rintro (h | h)
    · exact (hrb1.ne ha1 (by decide)) h
    · omega
  · rw [show (((i + 1 : Nat) : Int)) = (i : Int) + 1 by omega]
    exact (((ha1.set 0 _).other (a := ⟨rx, 0, none⟩) (Ne.symm m3) _).other (a := ⟨rx, 1, none⟩) (Ne.symm m3) _).other (a := ⟨rx, 2, none⟩) (Ne.symm m3) _
  · rintro (h | h)
    · exact m6 h
    · have := ho1.ne hr (by decide)
      exact this h
  · rintro ad' e (h | h)
    · injection e with e
      subst e
      exact m7 h
    · injection e with e
      subst e
      have := hglt _ hag
      omega
  · rintro k hk (h | h)
    · exact .inr (.inl h)
    · omega
theorem lo_src {eb ab ob rb cb : Nat} {Gb : Nat → Prop} (own : List En) (h1 : ¬ Gb ab) (h2 : ¬ loF eb ab ob rb Gb cb) : SrcOk ⟨cb, .func (.func 26) #[] #[.pointer (some ⟨eb, 0, none⟩), .pointer (some ⟨ab, 0, none⟩), .pointer (some ⟨ob, 0, none⟩), .pointer (some ⟨rb, 0, none⟩)], loF eb ab ob rb Gb, LoI eb ab ob rb Gb own⟩ :=
  ⟨fun hI hf hS => hI.fr hf hS, h2, .inr ⟨26, _, rfl, enters Try.func26 (by kernel_rfl) rfl, fun W x l e hI => lo_step h1 hI, fun W e hI => lo_end hI⟩⟩
theorem RowK.emp (w : World) (e : TypeId) (k : Nat) : RowK (w.alloc (.cells #[] e)) e k (.slice (some ⟨w.heap.size, 0, none⟩) 0 0) [] := by
  refine ⟨by simp, ?_⟩
  have := World.ownsRow_lit (base := 0) (e := e) (size := k) w #[] 0 (Nat.zero_le _) (by simp [maxLen]) (by simp)
  simpa using this
set_option maxHeartbeats 1000000 in
set_option maxRecDepth 100000 in
theorem over_any {W : World} {A : Option Addr} {cp : Nat} {l : List En} (e : Int) (hR : RdE W A l) (hfew : l.length ≤ 1000000) : Calls Try.prog 13 #[.agg #[.slice A l.length cp, .int .i64 e]] W (Made W (fun _ => False) (told none l e).1 (told none l e).2) := by
  have hmf : ∀ (fn : Fn) (first cap : Array Value) (w : World), (Instr.makeFunc fn first cap).run Try.prog w = .ok (.func fn first cap) w := fun _ _ _ _ => rfl
  have hrow := RowK.emp (W.alloc (.cells #[.slice A l.length cp, .int .i64 e] 24)) 32 3
  have hr2 : RdE ((W.alloc (.cells #[.slice A l.length cp, .int .i64 e] 24)).alloc (.cells #[] 32)) A l := hR.fr (((Fr.refl (fun _ => False) W).alloc _).alloc _) (fun _ _ => id)
  simp only [World.size_alloc] at hrow
  go_enter Try.func13, Try.ntmps13
  go_wp2_with (at_builtin; go_must (refine appNK rfl _ _ 22 32 (.agg #[.string ⟨#[]⟩, .string ⟨#[]⟩, .bool false]) 3 40 rfl Try.underlying22 infoEn rfl (by decide) (by decide) (.slice (some ⟨W.heap.size + 1, 0, none⟩) 0 0) [] rfl A (ens l) l.length cp (ens_len l).symm rfl hrow (ens_three l) hr2 (ens_one l) (by rw [ens_len]; simp; omega) ?_); intro v1 w1 hR1 hor1 hf1; rw [List.nil_append] at hR1; obtain ⟨A1, c1, rfl, hrd1, hle1, hmx1, _⟩ := hR1.rd; rw [ens_len] at hle1 hR1 hor1 ⊢)
  have hGb : ∀ k, (Value.slice A1 l.length c1).ownBlock = some k → W.heap.size < k := fun k hk => by
    rcases hor1 with h | h
    · rw [h] at hk
      simp [Value.ownBlock] at hk
      omega
    · rw [h] at hk
      simp at hk
      omega
  have hGl : ∀ k, (Value.slice A1 l.length c1).ownBlock = some k → k < w1.heap.size := fun k hk => hR1.lt hk
  have hf1' : Fr (fun _ => False) W w1 := (((Fr.refl (fun _ => False) W).alloc (.cells #[.slice A l.length cp, .int .i64 e] 24)).alloc (.cells #[] 32)).trans hf1 (fun i hi h => by simp [Value.ownBlock] at h; omega)
  have hrb := hf1.blk ((Blk.at_new W [.slice A l.length cp, .int .i64 e] 24 _ _ rfl rfl).alloc (.cells #[] 32)) (by simp [Value.ownBlock])
  have hown := fun ad (h : A1 = some ad) => hR1.at_own h
  have hsz := hf1'.size
  have hsz1 : W.heap.size < w1.heap.size := hrb.lt
  have g3 : Fr (fun _ => False) w1 (((w1.alloc (.cells #[.slice A1 l.length c1] 22)).alloc (.cells #[.int .i64 0] 3)).alloc (.cells #[.bool false] 4)) := (((Fr.refl _ w1).alloc _).alloc _).alloc _
  have q1 : Blk (((w1.alloc (.cells #[.slice A1 l.length c1] 22)).alloc (.cells #[.int .i64 0] 3)).alloc (.cells #[.bool false] 4)) w1.heap.size [.slice A1 l.length c1] 22 := ((Blk.at_new _ _ _ _ _ rfl rfl).alloc _).alloc _
  have q2 : Blk (((w1.alloc (.cells #[.slice A1 l.length c1] 22)).alloc (.cells #[.int .i64 0] 3)).alloc (.cells #[.bool false] 4)) (w1.heap.size + 1) [.int .i64 0] 3 := (Blk.at_new _ _ _ _ _ (by simp) rfl).alloc _
  have q3 : Blk (((w1.alloc (.cells #[.slice A1 l.length c1] 22)).alloc (.cells #[.int .i64 0] 3)).alloc (.cells #[.bool false] 4)) (w1.heap.size + 1 + 1) [.bool false] 4 := Blk.at_new _ _ _ _ _ (by simp) rfl
  have q4 := g3.blk hrb id
  have hz := q3.lt
  have hrd2 : RdE (((w1.alloc (.cells #[.slice A1 l.length c1] 22)).alloc (.cells #[.int .i64 0] 3)).alloc (.cells #[.bool false] 4)) A1 l := Rd.fr hrd1 g3 (fun _ _ => id)
  have Hall := Lib.hid (And.intro q1 (And.intro q2 (And.intro q3 (And.intro q4 (And.intro hGb (And.intro hGl (And.intro (hf1'.trans g3 (fun _ _ h => h)) (And.intro hown (And.intro hrd2 hle1)))))))))
  clear hR1 hor1 hf1 hrd1 hle1 hmx1 hGb hGl hown hrd2 hf1' hR q1 q2 q3 q4 g3 hrb hr2 hrow
  go_wp2_with fail
  refine (from_any (.inr ⟨_, _, rfl⟩) _).mono ?_
  rintro en w3 ⟨cb, rfl, hcb, hf3, hcn⟩
  obtain ⟨q1, q2, q3, q4, hGb, hGl, hf1', hown, hrd2, hle1⟩ := Hall.out
  have hf2 : Fr (fun _ => False) W w3 := hf1'.trans hf3 (fun _ _ h => h)
  have hs3 := hf3.size
  have hM := made (d := ⟨cb, .func (.func 26) #[] #[.pointer (some ⟨w1.heap.size + 1 + 1, 0, none⟩), .pointer (some ⟨w1.heap.size + 1, 0, none⟩), .pointer (some ⟨w1.heap.size, 0, none⟩), .pointer (some ⟨W.heap.size, 0, none⟩)], loF (w1.heap.size + 1 + 1) (w1.heap.size + 1) w1.heap.size W.heap.size fun k => (Value.slice A1 l.length c1).ownBlock = some k, LoI (w1.heap.size + 1 + 1) (w1.heap.size + 1) w1.heap.size W.heap.size (fun k => (Value.slice A1 l.length c1).ownBlock = some k) l⟩)
    (lo_src l (fun h => by have := hGl _ h; omega) (by rintro (h | h | h | h | h); omega; omega; omega; omega; have := hGl _ h; omega)) (W := W) (W' := w3) (P := fun _ => False) (l0 := l) (e0 := e)
    ⟨hfew, fun k hk => by have := hGl k hk; omega, hf3.blk q3 id, ⟨_, hf3.blk q4 id⟩, 0, A1, c1, hf3.blk q2 id, hf3.blk q1 id, hrd2.fr hf3 (fun _ _ => id), hown, Nat.zero_le _, rfl⟩
    (by rintro k (h | h | h | h | h); omega; omega; omega; omega; have := hGl k h; omega) hcb hf2 (by
      rintro k (h | h | h | h | h | h)
      · left; have : k = cb := h; omega
      · left; omega
      · left; omega
      · left; omega
      · left; omega
      · left; have := hGb k h; omega)
  have HM := Lib.hid hM
  clear Hall hcb hf3 q1 q2 q3 q4 hGb hGl hf1' hown hrd2 hle1 hM hf2
  go_wp2
  go_ret
  exact HM.out
end Go.Proofs.Ytcpnjlnphjnhnaa

/- Walk: what tells a map's keys from one on, one by one. Conditions: those of the lemmas. -/
import Derived.Test.YtkodepdbnkghfaaPutS
import Derived.Deep.LoopGhost
namespace Go.Proofs.Ytkodepdbnkghfaa
open Go.RowKit
theorem infoPS : (Try.prog.info? 24).map (fun i => (i.zero, i.size, i.bytes)) = some (some (.pointer none), 1, 8) := by kernel_rfl
/-- The pointers of a stack lead to its trees, none of them empty. -/
def StkS (W : World) : List Value → List (Tr ByteArray) → Prop
  | [], [] => True
  | p :: ps, t :: ts => (∃ a, p = .pointer (some a) ∧ IsS W (some a) t) ∧ StkS W ps ts
  | _, _ => False
theorem StkS.len {W : World} : ∀ {ps : List Value} {ts : List (Tr ByteArray)}, StkS W ps ts → ps.length = ts.length
  | [], [], _ => rfl
  | _ :: _, _ :: _, h => congrArg (· + 1) (StkS.len h.2)
theorem StkS.fr {S : Nat → Prop} {W W' : World} (hf : Fr S W W') (hS : ∀ b cs, Blk W b cs 63 → ¬ S b) : ∀ {ps : List Value} {ts : List (Tr ByteArray)}, StkS W ps ts → StkS W' ps ts
  | [], [], _ => trivial
  | _ :: _, _ :: _, ⟨⟨a, e, h⟩, h2⟩ => ⟨⟨a, e, h.fr hf hS⟩, StkS.fr hf hS h2⟩
theorem StkS.snoc {W : World} {a : Addr} {t : Tr ByteArray} (ht : IsS W (some a) t) : ∀ {ps : List Value} {ts : List (Tr ByteArray)}, StkS W ps ts → StkS W (ps ++ [.pointer (some a)]) (ts ++ [t])
  | [], [], _ => ⟨⟨a, rfl, ht⟩, trivial⟩
  | _ :: _, _ :: _, ⟨h1, h2⟩ => ⟨h1, StkS.snoc ht h2⟩
theorem StkS.last {W : World} {t : Tr ByteArray} : ∀ {ts : List (Tr ByteArray)} {ps : List Value}, StkS W ps (ts ++ [t]) → ∃ ps' a, ps = ps' ++ [.pointer (some a)] ∧ StkS W ps' ts ∧ IsS W (some a) t
  | [], [_], ⟨⟨a, e, h⟩, _⟩ => ⟨[], a, by rw [e]; rfl, trivial, h⟩
  | [], _ :: _ :: _, ⟨_, h⟩ => h.elim
  | [], [], h => h.elim
  | _ :: ts, [], h => h.elim
  | _ :: ts, p :: ps, ⟨h1, h2⟩ => by
    obtain ⟨ps', a, rfl, h3, h4⟩ := StkS.last h2
    exact ⟨p :: ps', a, rfl, ⟨h1, h3⟩, h4⟩
theorem StkS.some {W : World} : ∀ {ps : List Value} {ts : List (Tr ByteArray)}, StkS W ps ts → ∀ t ∈ ts, t ≠ .nil
  | [], [], _, t, h => by simp at h
  | _ :: _, t' :: ts, ⟨⟨a, _, h1⟩, h2⟩, t, h => by
    rcases List.mem_cons.1 h with rfl | h
    · rintro rfl
      cases h1
    · exact StkS.some h2 t h
theorem remS_lenS : ∀ (ts : List (Tr ByteArray)), (∀ t ∈ ts, t ≠ .nil) → ts.length ≤ (remS ts).length
  | [], _ => Nat.zero_le _
  | .nil :: _, h => absurd rfl (h .nil (by simp))
  | .node _ k v r :: ts, h => by
    have := remS_lenS ts (fun t ht => h t (by simp [ht]))
    simp only [remS, List.length_append, List.length_cons]
    omega
/-- What is left to be told is l. -/
def WkS (W : World) (wb : Nat) (v : Value) (l : List (ByteArray × ByteArray)) : Prop :=
  ∃ ps ts, Blk W wb [v] 61 ∧ Row W 24 v ps ∧ StkS W ps ts ∧ remS ts.reverse = l
theorem WkS.fr {S : Nat → Prop} {W W' : World} {wb : Nat} {v : Value} {l : List (ByteArray × ByteArray)} (h : WkS W wb v l) (hf : Fr S W W') (h1 : ¬ S wb) (h2 : ∀ k, v.ownBlock = some k → ¬ S k) (h3 : ∀ b cs, Blk W b cs 63 → ¬ S b) : WkS W' wb v l := by
  obtain ⟨ps, ts, a, b, c, d⟩ := h
  exact ⟨ps, ts, hf.blk a h1, b.fr hf h2, c.fr hf h3, d⟩
theorem WkS.lt {W : World} {wb : Nat} {v : Value} {l : List (ByteArray × ByteArray)} (h : WkS W wb v l) : wb < W.heap.size ∧ ∀ k, v.ownBlock = some k → k < W.heap.size := by
  obtain ⟨ps, ts, a, b, c, d⟩ := h
  exact ⟨a.lt, fun k hk => b.lt hk⟩
/-- A step that changes the walk's own blocks alone leaves the trees. -/
theorem ownS {W : World} {wb : Nat} {v c : Value} {ps : List Value} (hb : Blk W wb [c] 61) (hr : Row W 24 v ps) : ∀ b cs, Blk W b cs 63 → ¬ (b = wb ∨ v.ownBlock = some b) := by
  intro b cs hbb hh
  rcases hh with rfl | hh
  · exact absurd (hbb.inj hb) (by decide)
  · exact hr.ne hbb (by decide) hh
set_option maxHeartbeats 2000000 in
set_option maxRecDepth 100000 in
theorem walkS_any {W : World} {q : Option Addr} {t : Tr ByteArray} (h : IsS W q t) (key : ByteArray) (hs : Srt t.toL) (hc : t.cnt ≤ 900000) :
    Calls Try.prog 9 #[.agg #[.pointer q], .string key] W fun e w' => ∃ wb v, e = .returned (.func (.func 23) #[] #[.pointer (some ⟨wb, 0, none⟩)]) ∧ WkS w' wb v (lfrom t.toL key) ∧ Fr (fun _ => False) W w' ∧ W.heap.size ≤ wb ∧ (∀ k, v.ownBlock = some k → W.heap.size ≤ k) := by
  have hmf : ∀ (fn : Fn) (first cap : Array Value) (w : World), (Instr.makeFunc fn first cap).run Try.prog w = .ok (.func fn first cap) w := fun _ _ _ _ => rfl
  have hb0 : Blk ((W.alloc (.cells #[.pointer q] 26)).alloc (.cells #[.slice none 0 0] 61)) (W.heap.size + 1) [.slice none 0 0] 61 := Blk.at_new _ _ _ _ _ (by simp) rfl
  have hf0 : Fr (fun _ => False) W ((W.alloc (.cells #[.pointer q] 26)).alloc (.cells #[.slice none 0 0] 61)) := ((Fr.refl _ W).alloc _).alloc _
  have hL : Hid ((lfrom t.toL key).length ≤ 900000) := by
    have := List.length_filter_le (fun p : ByteArray × ByteArray => !sLt p.1 key) t.toL
    rw [Tr.cnt_len] at hc
    exact Nat.le_trans this hc
  have H := Lib.hid h
  have Hs := Lib.hid hs
  clear h hs hc
  obtain ⟨n, hn⟩ : ∃ n, n = t.ht := ⟨_, rfl⟩
  have Hn := Lib.hid hn
  clear hn
  go_enter Try.func9, Try.ntmps9
  go_wp2_with fail
  simp only [List.toArray] at hb0
  have hB : W.heap.size ≤ W.heap.size + 1 := by omega
  generalize (W.alloc (.cells #[.pointer q] 26)).alloc (.cells #[.slice none 0 0] 61) = w0 at hb0 hf0 ⊢
  obtain ⟨wb, hwb⟩ : ∃ wb, wb = W.heap.size + 1 := ⟨_, rfl⟩
  rw [← hwb] at hB hb0 ⊢
  clear hwb
  go_loopg [6] n (fun g p wr => ∃ q' t' v ps ts, p = .pointer q' ∧ IsS wr q' t' ∧ t'.ht ≤ g ∧ Srt t'.toL ∧ Blk wr wb [v] 61 ∧ Row wr 24 v ps ∧ StkS wr ps ts ∧ lfrom t'.toL key ++ remS ts.reverse = lfrom t.toL key ∧ Fr (fun _ => False) W wr ∧ (∀ k, v.ownBlock = some k → W.heap.size ≤ k))
  case atStart => exact ⟨q, t, _, [], [], rfl, H.out.new hf0, Nat.le_of_eq Hn.out.symm, Hs.out, hb0, Row.nil _ _, trivial, by simp [remS], hf0, fun k hk => by simp [Value.ownBlock] at hk⟩
  case round =>
    obtain ⟨q', t', v, ps, ts, rfl, hI, hg, hsr, hb, hr, hk, hrem, hf, hn⟩ := hrel
    clear H Hs Hn hb0 hf0
    cases t' with
    | nil =>
      obtain rfl : q' = none := hI
      have A := Lib.hid (And.intro hrem hg)
      clear hrem hg hsr
      go_wp2
      go_ret
      exact ⟨wb, v, rfl, ⟨ps, ts, hb, hr, hk, by have := A.out.1; simpa [Tr.toL, lfrom] using this⟩, hf, hB, hn⟩
    | node l nk nv r =>
      obtain ⟨b, ql, qr, rfl, hbn, hl, hrr⟩ := hI
      have k0 := hbn.cell 0 rfl
      have k1 := hbn.cell 1 rfl
      have k2 := hbn.cell 2 rfl
      have e1 : (Tr.node l nk nv r).ht = 1 + max l.ht r.ht := rfl
      by_cases c : sLt nk key = true
      · have t1 : Op.bytesLess nk.toList key.toList = true := c
        have hrem' : lfrom r.toL key ++ remS ts.reverse = lfrom t.toL key := by rw [← hrem, from_right hsr c]
        have hlt : r.ht < gk := by omega
        have A := Lib.hid (And.intro hrem' hlt)
        clear hrem' hlt hrem e1 hg
        go_wp2
        go_roundg r.ht
        case measure => exact A.out.2
        case rel => exact ⟨qr, r, v, ps, ts, rfl, hrr, Nat.le_refl _, srt_right hsr, hb, hr, hk, A.out.1, hf, hn⟩
      · have c' : sLt nk key = false := by simpa using c
        have t1 : Op.bytesLess nk.toList key.toList = false := c'
        have hI : IsS wr (some ⟨b, 0, none⟩) (Tr.node l nk nv r) := ⟨b, ql, qr, rfl, hbn, hl, hrr⟩
        have hsrl := srt_left hsr
        have hrem' : lfrom l.toL key ++ remS (ts ++ [Tr.node l nk nv r]).reverse = lfrom t.toL key := by
          rw [← hrem, from_left hsr c', List.reverse_append]
          rfl
        have hlt : l.ht < gk := by omega
        have hlen : (ps.length + 1) * 8 ≤ 140737488355328 := by
          have h1 := remS_lenS ts.reverse (fun t ht => hk.some t (by simpa using ht))
          have h2 := hk.len
          have h3 := congrArg List.length hrem
          have h4 := hL.out
          rw [List.length_append] at h3
          rw [List.length_reverse] at h1
          omega
        have A := Lib.hid (And.intro hrem' hlt)
        have Hlen := Lib.hid hlen
        clear hrem' hlt hrem e1 hg hlen hsr
        have kb := hb.cell 0 rfl
        have kbf := hb.free 0
        have hbl := hb.lt
        have hbnl := hbn.lt
        generalize Tr.node l nk nv r = tn at hI A
        go_wp2_with (at_builtin; go_must (refine app1 rfl _ _ 61 24 (.pointer none) 8 rfl Try.underlying61 infoPS rfl (by decide) v ps (.pointer (some ⟨b, 0, none⟩)) rfl rfl rfl hr Hlen.out ?_); intro g c w1 hR1 hor1 hf1 _; have hb1 := hf1.blk hb (hr.ne hb (by decide)); have kb' := hb1.cell 0 rfl; have kbf' := hb1.free 0; have hn1 := hf1.blk hbn (hr.ne hbn (by decide)); have k0' := hn1.cell 0 rfl; have hne1 : b ≠ wb := (hn1.ne hb1 (by decide)))
        go_roundg l.ht
        case measure => exact A.out.2
        case rel =>
          have hS := ownS hb hr
          have f2 : Fr (fun k => k = wb ∨ v.ownBlock = some k) wr (w1.setCell ⟨wb, 0, none⟩ (.slice (some ⟨g, 0, none⟩) (ps.length + 1) c)) := (hf1.mono (fun _ _ h => .inr h)).setCell _ _ (fun _ => .inl rfl)
          refine ⟨ql, l, .slice (some ⟨g, 0, none⟩) (ps.length + 1) c, ps ++ [.pointer (some ⟨b, 0, none⟩)], ts ++ [tn], rfl, hl.fr f2 hS, Nat.le_refl _, hsrl, hb1.set 0 _, hR1.other (hR1.ne hb1 (by decide)) _, (hk.fr f2 hS).snoc (hI.fr f2 hS), A.out.1, hf.trans f2 (fun i hi hh => ?_), fun k hk' => ?_⟩
          · rcases hh with rfl | hh
            · omega
            · have := hn i hh; omega
          · have hk2 : g = k := by simpa [Value.ownBlock] using hk'
            subst hk2
            rcases hor1 with h' | h'
            · exact hn _ h'
            · have := hf.size; omega
end Go.Proofs.Ytkodepdbnkghfaa

/- does: a call on a map and on a list. Conditions: those of the lemmas. -/
import Derived.Test.YtkodepdbnkghfaaIsL
namespace Go.Proofs.Ytkodepdbnkghfaa
open Go.RowKit
attribute [local go_sem ↓] Go.wp_at_zero Go.wp_at_succ
def doesT (t : Tr Int) (o : Op3) : Tr Int := if o.kind = 1 then t.put o.key o.val else if o.kind = 2 then t.wo o.key else t
def doesL (l : List (ByteArray × Int)) (o : Op3) : List (ByteArray × Int) := if o.kind = 1 then lput l o.key o.val else if o.kind = 2 then lwo l o.key else l
theorem does_toL {t : Tr Int} (hs : Srt t.toL) (o : Op3) : (doesT t o).toL = doesL t.toL o := by
  unfold doesT doesL
  split
  · exact Tr.put_toL t _ _ hs
  · split
    · unfold Tr.wo
      cases hg : (t.get o.key) with
      | some v => simp only [Option.isSome_some, if_true]; exact Tr.wo_toL t _ hs
      | none =>
        simp only [Option.isSome_none]
        rw [Tr.get_toL t _ hs] at hg
        rw [if_neg (by simp)]
        refine (lwo_none fun p hp e => ?_).symm
        unfold lget at hg
        rw [Option.map_eq_none_iff, List.find?_eq_none] at hg
        exact hg p hp (by simpa using e)
    · rfl
theorem does_srt {l : List (ByteArray × Int)} (hs : Srt l) (o : Op3) : Srt (doesL l o) := by
  unfold doesL
  split
  · exact lput_srt hs _ _
  · split
    · exact lwo_srt hs _
    · exact hs
theorem does_len (l : List (ByteArray × Int)) (o : Op3) : (doesL l o).length ≤ l.length + 1 := by
  unfold doesL
  split
  · exact lput_len.2.1
  · split
    · have : (lwo l o.key).length ≤ l.length := List.length_filter_le _ _
      omega
    · omega
def DoesP (W : World) (A : Option Addr) (t : Tr Int) (l : List (ByteArray × Int)) (e : Ending) (w' : World) : Prop := ∃ q' A' c', e = .returned (.tuple #[.agg #[.pointer q'], .slice A' l.length c']) ∧ IsI w' q' t ∧ Lst w' A' c' l ∧ Fr (fun _ => False) W w' ∧ ∀ ad, A' = some ad → A = some ad ∨ W.heap.size ≤ ad.block
set_option maxHeartbeats 4000000 in
set_option maxRecDepth 100000 in
theorem does_any {W : World} {q : Option Addr} {t : Tr Int} (ht : IsI W q t) (hc : t.cnt ≤ 900000) {A : Option Addr} {c : Nat} {l : List (ByteArray × Int)} (hl : Lst W A c l) (hlen : l.length ≤ 900000) (o : Op3) :
    Calls Try.prog 13 #[.agg #[.pointer q], .slice A l.length c, .agg #[.int .i64 o.kind, .string o.key, .int .i64 o.val]] W (DoesP W A (doesT t o) (doesL l o)) := by
  obtain ⟨kd, ky, vl⟩ := o
  have f0 : Fr (fun _ => False) W (((W.alloc (.cells #[.pointer q] 40)).alloc (.cells #[.int .i64 kd, .string ky, .int .i64 vl] 45)).alloc (.cells #[.pointer none] 40)) := (((Fr.refl _ W).alloc _).alloc _).alloc _
  have m0 : Blk (((W.alloc (.cells #[.pointer q] 40)).alloc (.cells #[.int .i64 kd, .string ky, .int .i64 vl] 45)).alloc (.cells #[.pointer none] 40)) W.heap.size [.pointer q] 40 := ((Blk.at_new _ _ _ _ _ rfl rfl).alloc _).alloc _
  have o0 : Blk (((W.alloc (.cells #[.pointer q] 40)).alloc (.cells #[.int .i64 kd, .string ky, .int .i64 vl] 45)).alloc (.cells #[.pointer none] 40)) (W.heap.size + 1) [.int .i64 kd, .string ky, .int .i64 vl] 45 := (Blk.at_new _ _ _ _ _ (by simp) rfl).alloc _
  have r0 : Blk (((W.alloc (.cells #[.pointer q] 40)).alloc (.cells #[.int .i64 kd, .string ky, .int .i64 vl] 45)).alloc (.cells #[.pointer none] 40)) (W.heap.size + 1 + 1) [.pointer none] 40 := Blk.at_new _ _ _ _ _ (by simp) rfl
  have ht0 := ht.new f0
  have hl0 := hl.new f0
  have H := Lib.hid (And.intro ht0 hl0)
  have hmx := hl.mx
  have hle := hl.le
  have ne1 : W.heap.size ≠ W.heap.size + 1 + 1 := by omega
  have ne2 : W.heap.size + 1 ≠ W.heap.size + 1 + 1 := by omega
  have hlW : W.heap.size ≤ W.heap.size + 1 + 1 := by omega
  have HL := Lib.hid hl
  clear ht hl ht0 hl0
  have e1 : Hid (doesT t ⟨kd, ky, vl⟩ = if kd = 1 then t.put ky vl else if kd = 2 then t.wo ky else t) := rfl
  have e2 : Hid (doesL l ⟨kd, ky, vl⟩ = if kd = 1 then lput l ky vl else if kd = 2 then lwo l ky else l) := rfl
  generalize doesT t ⟨kd, ky, vl⟩ = T' at *
  generalize doesL l ⟨kd, ky, vl⟩ = L' at *
  go_enter Try.func13, Try.ntmps13
  by_cases h1 : kd = 1
  · subst h1
    rw [if_pos rfl] at e1 e2
    go_upto_region 1 with fail
    generalize hw0 : ((W.alloc (.cells #[.pointer q] 40)).alloc (.cells #[.int .i64 1, .string ky, .int .i64 vl] 45)).alloc (.cells #[.pointer none] 40) = w0 at f0 m0 o0 r0 H ⊢
    clear hw0
    generalize W.heap.size + 1 + 1 = rb at r0 ne1 ne2 hlW ⊢
    generalize W.heap.size + 1 = ob at o0 ne2 ⊢
    obtain ⟨mb, hmb⟩ : ∃ mb, mb = W.heap.size := ⟨_, rfl⟩
    rw [← hmb] at m0 ne1 hlW ⊢
    have Hmb := Lib.hid hmb
    clear hmb
    have k0 := o0.cell 0 rfl
    go_upto_region 3 with fail
    clear k0
    obtain ⟨ht, hl⟩ := H.out
    have d0 : Fr (fun _ => False) w0 w0.drew := (Fr.refl _ w0).drew
    have m1 := m0.drew
    have o1 := o0.drew
    have r1 := r0.drew
    go_region_held3 (fun w' => w'.cell? ⟨mb, 0, none⟩ = some (.pointer q) ∧ w'.cell? ⟨ob, 1, none⟩ = some (.string ky) ∧ w'.cell? ⟨ob, 2, none⟩ = some (.int .i64 vl))
      (first | exact ⟨m1.cell 0 rfl, o1.cell 1 rfl, o1.cell 2 rfl⟩ | exact ⟨m3.cell 0 rfl, o3.cell 1 rfl, o3.cell 2 rfl⟩ | exact ⟨m4.cell 0 rfl, o4.cell 1 rfl, o4.cell 2 rfl⟩ | exact ⟨(m4.other (a := ⟨rb, 0, none⟩) ne1 _).cell 0 rfl, (o4.other (a := ⟨rb, 0, none⟩) ne2 _).cell 1 rfl, (o4.other (a := ⟨rb, 0, none⟩) ne2 _).cell 2 rfl⟩)
      (first
        | (go_at_call 18; refine (mputI_any (ht.new d0) ky vl hc).mono ?_; rintro e w3 ⟨q3, rfl, hI3, hf3⟩; have m3 := hf3.blk m1 id; have o3 := hf3.blk o1 id; have r3 := hf3.blk r1 id)
        | (go_at_call 26; refine (rput_any ((hl.new d0).new hf3) ky vl hlen).mono ?_; rintro e w4 ⟨A4, c4, rfl, hL4, hf4, hA4⟩; have m4 := hf4.blk m3 id; have o4 := hf4.blk o3 id; have r4 := hf4.blk r3 id; have kr4 := r4.cell 0 rfl; have kf4 := r4.free 0))
    have kz := (r4.set 0 (.pointer (some q3))).cell 0 rfl
    have hS : ∀ b cs, Blk w4 b cs 68 → ¬ (b = rb) := fun b cs hb => hb.ne r4 (by decide)
    have g4 := (Fr.refl (fun b => b = rb) w4).set1 0 (.pointer (some q3))
    have ff := ((f0.trans d0 (fun _ _ h => h)).trans hf3 (fun _ _ h => h)).trans hf4 (fun _ _ h => h)
    go_wp2_with fail
    refine bodyPost_ret (v := .tuple #[.agg #[.pointer (some q3)], .slice A4 (lput l ky vl).length c4]) (by simp [results, Try.results13, go_sem, kz]) rfl ⟨some q3, A4, c4, ?_, ?_, ?_, ?_, fun ad had => ?_⟩
    · rw [e2.out]
    · rw [e1.out]; exact (hI3.new hf4).fr g4 hS
    · rw [e2.out]
      exact hL4.fr2 g4 (fun ad had _ hh => by have h1 := hA4 ad had; have h2 := r3.lt; omega)
    · exact ff.setCell _ _ (fun hh => by simp only at hh; have := Hmb.out; omega)
    · right
      have h1 := hA4 ad had
      have h2 := hf3.size
      have h3 := f0.size
      have h4 : w0.drew.heap.size = w0.heap.size := rfl
      omega
  · by_cases h2 : kd = 2
    · subst h2
      rw [if_neg (by decide), if_pos rfl] at e1 e2
      go_upto_region 1 with fail
      generalize hw0 : ((W.alloc (.cells #[.pointer q] 40)).alloc (.cells #[.int .i64 2, .string ky, .int .i64 vl] 45)).alloc (.cells #[.pointer none] 40) = w0 at f0 m0 o0 r0 H ⊢
      clear hw0
      generalize W.heap.size + 1 + 1 = rb at r0 ne1 ne2 hlW ⊢
      generalize W.heap.size + 1 = ob at o0 ne2 ⊢
      obtain ⟨mb, hmb⟩ : ∃ mb, mb = W.heap.size := ⟨_, rfl⟩
      rw [← hmb] at m0 ne1 hlW ⊢
      have Hmb := Lib.hid hmb
      clear hmb
      have k0 := o0.cell 0 rfl
      go_upto_region 5 with fail
      clear k0
      obtain ⟨ht, hl⟩ := H.out
      have d0 : Fr (fun _ => False) w0 w0.drew := (Fr.refl _ w0).drew
      have m1 := m0.drew
      have o1 := o0.drew
      have r1 := r0.drew
      go_region_held3 (fun w' => w'.cell? ⟨mb, 0, none⟩ = some (.pointer q) ∧ w'.cell? ⟨ob, 1, none⟩ = some (.string ky) ∧ w'.cell? ⟨ob, 2, none⟩ = some (.int .i64 vl))
        (first | exact ⟨m1.cell 0 rfl, o1.cell 1 rfl, o1.cell 2 rfl⟩ | exact ⟨m3.cell 0 rfl, o3.cell 1 rfl, o3.cell 2 rfl⟩ | exact ⟨m4.cell 0 rfl, o4.cell 1 rfl, o4.cell 2 rfl⟩ | exact ⟨(m4.other (a := ⟨rb, 0, none⟩) ne1 _).cell 0 rfl, (o4.other (a := ⟨rb, 0, none⟩) ne2 _).cell 1 rfl, (o4.other (a := ⟨rb, 0, none⟩) ne2 _).cell 2 rfl⟩)
        (first
          | (go_at_call 21; refine (mwithout_any (ht.new d0) ky hc).mono ?_; rintro e w3 ⟨q3, rfl, hI3, hf3⟩; have m3 := hf3.blk m1 id; have o3 := hf3.blk o1 id; have r3 := hf3.blk r1 id)
          | (go_at_call 27; refine (rwithout_any ((hl.new d0).new hf3) ky hlen).mono ?_; rintro e w4 ⟨A4, c4, rfl, hL4, hf4, hA4⟩; have m4 := hf4.blk m3 id; have o4 := hf4.blk o3 id; have r4 := hf4.blk r3 id; have kr4 := r4.cell 0 rfl; have kf4 := r4.free 0))
      have kz := (r4.set 0 (.pointer q3)).cell 0 rfl
      have hS : ∀ b cs, Blk w4 b cs 68 → ¬ (b = rb) := fun b cs hb => hb.ne r4 (by decide)
      have g4 := (Fr.refl (fun b => b = rb) w4).set1 0 (.pointer q3)
      have ff := ((f0.trans d0 (fun _ _ h => h)).trans hf3 (fun _ _ h => h)).trans hf4 (fun _ _ h => h)
      go_wp2_with fail
      refine bodyPost_ret (v := .tuple #[.agg #[.pointer q3], .slice A4 (lwo l ky).length c4]) (by simp [results, Try.results13, go_sem, kz]) rfl ⟨q3, A4, c4, ?_, ?_, ?_, ?_, fun ad had => ?_⟩
      · rw [e2.out]
      · rw [e1.out]; exact (hI3.new hf4).fr g4 hS
      · rw [e2.out]
        exact hL4.fr2 g4 (fun ad had _ hh => by have h1 := hA4 ad had; have h2 := r3.lt; omega)
      · exact ff.setCell _ _ (fun hh => by simp only at hh; have := Hmb.out; omega)
      · right
        have h1 := hA4 ad had
        have h2 := hf3.size
        have h3 := f0.size
        have h4 : w0.drew.heap.size = w0.heap.size := rfl
        omega
    · have H1 := Lib.hid (And.intro h1 h2)
      have h1' : (kd == 1) = false := by simpa using h1
      have h2' : (kd == 2) = false := by simpa using h2
      rw [if_neg h1, if_neg h2] at e1 e2
      clear h1 h2
      go_upto_region 1 with fail
      generalize hw0 : ((W.alloc (.cells #[.pointer q] 40)).alloc (.cells #[.int .i64 kd, .string ky, .int .i64 vl] 45)).alloc (.cells #[.pointer none] 40) = w0 at f0 m0 o0 r0 H ⊢
      clear hw0
      generalize W.heap.size + 1 + 1 = rb at r0 ne1 ne2 hlW ⊢
      generalize W.heap.size + 1 = ob at o0 ne2 ⊢
      obtain ⟨mb, hmb⟩ : ∃ mb, mb = W.heap.size := ⟨_, rfl⟩
      rw [← hmb] at m0 ne1 hlW ⊢
      have Hmb := Lib.hid hmb
      clear hmb
      have k0 := o0.cell 0 rfl
      have k1 := m0.cell 0 rfl
      have kr := r0.cell 0 rfl
      have kf := r0.free 0
      have kz := (r0.set 0 (.pointer q)).cell 0 rfl
      have hS : ∀ b cs, Blk w0 b cs 68 → ¬ (b = rb) := fun b cs hb => hb.ne r0 (by decide)
      have g4 := (Fr.refl (fun b => b = rb) w0).set1 0 (.pointer q)
      go_wp2_with fail
      obtain ⟨ht, hl⟩ := H.out
      refine bodyPost_ret (v := .tuple #[.agg #[.pointer q], .slice A l.length c]) (by simp [results, Try.results13, go_sem, kz]) rfl ⟨q, A, c, ?_, ?_, ?_, ?_, fun ad had => .inl had⟩
      · rw [e2.out]
      · rw [e1.out]; exact ht.fr g4 hS
      · rw [e2.out]; exact HL.out.new (f0.setCell _ _ (fun hh => by simp only at hh; have := Hmb.out; omega))
      · exact f0.setCell _ _ (fun hh => by simp only at hh; have := Hmb.out; omega)
end Go.Proofs.Ytkodepdbnkghfaa

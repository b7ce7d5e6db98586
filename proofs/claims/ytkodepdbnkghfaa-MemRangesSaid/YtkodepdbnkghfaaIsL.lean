/- is: a map has just these pairs. Conditions: those of the lemmas. -/
import Derived.Test.YtkodepdbnkghfaaRef2
import Derived.Test.YtkodepdbnkghfaaMaps
namespace Go.Proofs.Ytkodepdbnkghfaa
open Go.RowKit
theorem lfrom_drop {V : Type} (l : List (ByteArray × V)) (k : ByteArray) (j : Nat) (p : ByteArray × V) (hp : l[j]? = some p) : lfrom (l.drop j) k = if sLt p.1 k then lfrom (l.drop (j + 1)) k else p :: lfrom (l.drop (j + 1)) k := by
  have hj := (List.getElem?_eq_some_iff.1 hp).1
  have e : l[j]'hj = p := (List.getElem?_eq_some_iff.1 hp).2
  rw [List.drop_eq_getElem_cons hj, e, lfrom_cons]
theorem run_eql_func_nil {P : Program} (t : TypeId) {a b c : _} (ht : P.underlying t = some (.func a b c)) (w : World) (fn : Fn) (x y : Array Value) : (binOp .eql t (.func fn x y) .nilFunc).run P w = .ok (.bool false) w := by
  have h : ∀ d : Nat, (Op.equalIn (d + 1) t (.func fn x y) .nilFunc).run P w = .ok false w := fun d => by simp [Op.equalIn, run_underlying ht]
  simp only [binOp]
  simp [Op.equal, Op.maxDepth, h 9999]
set_option maxHeartbeats 2000000 in
set_option maxRecDepth 100000 in
theorem is_any {W : World} {q : Option Addr} {t : Tr Int} (ht : IsI W q t) (hs : Srt t.toL) (hc : t.cnt ≤ 900000) {A : Option Addr} {c : Nat} (hl : Lst W A c t.toL) (key : ByteArray) :
    Calls Try.prog 17 #[.agg #[.pointer q], .slice A t.toL.length c, .string key] W fun e w' => e = .returned (.bool true) ∧ Fr (fun _ => False) W w' := by
  have f0 : Fr (fun _ => False) W (W.alloc (.cells #[.pointer q] 40)) := (Fr.refl _ W).alloc _
  have b0 : Blk (W.alloc (.cells #[.pointer q] 40)) W.heap.size [.pointer q] 40 := Blk.at_new _ _ _ _ _ rfl rfl
  have k0 := b0.cell 0 rfl
  have C := Lib.hid (walkI_any (ht.new f0) key hs hc)
  have hle := hl.le
  have hmx := hl.mx
  have hlen : t.toL.length ≤ 900000 := by rw [← Tr.cnt_len]; exact hc
  have H := Lib.hid hl
  clear ht hs hc hl b0
  generalize t.toL = l at *
  go_enter Try.func17, Try.ntmps17
  go_wp2_with fail
  refine C.out.mono ?_
  rintro e w1 ⟨wb, v, rfl, hW, hf, hB, hn⟩
  clear C k0
  have hqf := fun (w : World) (fn : Fn) (x y : Array Value) => run_eql_func_nil (P := Try.prog) 69 Try.underlying69 w fn x y
  go_wp2_with fail
  have f1 := f0.trans hf (fun _ _ h => h)
  clear hqf hf f0
  go_loopw [8] (fun i wr => ∃ (j : Nat) (v : Value), i = .int .i64 j ∧ j ≤ l.length ∧ WkI wr wb v (lfrom (l.drop j) key) ∧ Fr (fun _ => False) W wr ∧ (∀ k, v.ownBlock = some k → W.heap.size ≤ k)) (fun i _ => l.length - (intOf i).toNat)
  case atStart => exact ⟨0, v, rfl, Nat.zero_le _, hW, f1, fun k hk => by have := hn k hk; simp at this; omega⟩
  case round =>
    have hB' : W.heap.size ≤ wb := by simp at hB; omega
    clear hW f1 hn hB
    obtain ⟨j, v, rfl, hj, hW, hf, hn⟩ := hrel
    by_cases hjl : j < l.length
    · have hp : l[j]? = some (l[j]'hjl) := List.getElem?_eq_getElem _
      have hL := H.out.new hf
      obtain ⟨ad, rfl, c0, c1⟩ := hL.cells hp
      have hd := lfrom_drop l key j _ hp
      have hA : ad.block < W.heap.size := by
        obtain ⟨ad', e', hc', _⟩ := H.out.cells hp
        cases e'
        have := World.block_lt_of_cell? W _ hc'
        rwa [add_block] at this
      generalize l[j]'hjl = p at hp c0 c1 hd
      obtain ⟨pk, pv⟩ := p
      simp only at c0 c1 hd
      by_cases ck : sLt pk key = true
      · have t1 : Op.bytesLess pk.toList key.toList = true := ck
        rw [if_pos ck] at hd
        rw [hd] at hW
        clear hd hp ck hL
        go_wp2_with fail
        go_roundw
        case rel => exact ⟨j + 1, v, by go_num, by omega, hW, hf, hn⟩
        case measure => simp [intOf]; omega
      · have t1 : Op.bytesLess pk.toList key.toList = false := (by simpa using ck : sLt pk key = false)
        rw [if_neg ck] at hd
        rw [hd] at hW
        have hlr : (lfrom (l.drop (j + 1)) key).length ≤ 900000 := by
          have h1 : (lfrom (l.drop (j + 1)) key).length ≤ (l.drop (j + 1)).length := List.length_filter_le _ _
          rw [List.length_drop] at h1
          omega
        have C := Lib.hid (nextI_some hW hlr)
        have hwl := hW.lt
        clear hd hp ck hL hlr hW
        go_wp2_with fail
        refine C.out.mono ?_
        rintro e w2 ⟨v2, rfl, hW2, hf2, hn2⟩
        have hS : ¬ (ad.block = wb ∨ v.ownBlock = some ad.block) := fun hh => by
          rcases hh with hh | hh
          · omega
          · have := hn _ hh; omega
        have k0 := hf2.cell c0 (by rw [add_block]; exact hS)
        have k1 := hf2.cell c1 (by rw [add_block]; exact hS)
        have t2 : (pk.toList == pk.toList) = true := by simp
        have hf3 := hf.trans hf2 (fun i hi hh => by rcases hh with rfl | hh; omega; (have := hn i hh; omega))
        have hn3 : ∀ k, v2.ownBlock = some k → W.heap.size ≤ k := fun k hk => by
          rcases hn2 k hk with h | h
          · exact hn k h
          · have := hf.size; omega
        clear C c0 c1 hf2 hn2
        go_wp2_with fail
        go_roundw
        case rel => exact ⟨j + 1, v2, by go_num, by omega, hW2, hf3, hn3⟩
        case measure => simp [intOf]; omega
    · obtain rfl : j = l.length := by omega
      rw [List.drop_length] at hW
      have hW0 : WkI wr wb v [] := hW
      have C := Lib.hid (fun n => nextI_end (hW0.fr ((Fr.refl (fun _ => False) wr).drewN n) id (fun _ _ => id) (fun _ _ _ => id)))
      have C0 := Lib.hid (nextI_end hW0)
      clear hW hW0
      go_wp2_with fail
      go_loop [12] (fun i => ∃ j : Nat, i = .int .i64 j ∧ j ≤ 2) (fun i => 2 - (intOf i).toNat)
      case atStart => exact ⟨0, rfl, by omega⟩
      case round =>
        obtain ⟨j2, rfl, hj2⟩ := hrel
        by_cases h2 : j2 < 2
        · go_wp2_with fail
          refine C0.out.mono ?_
          rintro e w2 ⟨rfl, rfl⟩
          go_wp2_with fail
          go_round
          case rel => exact ⟨j2 + 1, by go_num, by omega⟩
          case measure => simp [intOf]; omega
        · go_wp2_with fail
          go_ret
          exact ⟨rfl, hf⟩
end Go.Proofs.Ytkodepdbnkghfaa

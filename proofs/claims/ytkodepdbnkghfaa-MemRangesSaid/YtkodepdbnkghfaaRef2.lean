/- The document's lists: Without, Get; the bound of the height; few. Conditions: those of the lemmas. -/
import Derived.Test.YtkodepdbnkghfaaRef
namespace Go.Proofs.Ytkodepdbnkghfaa
open Go.RowKit
theorem lwo_snoc {V : Type} (l : List (ByteArray × V)) (p : ByteArray × V) (k : ByteArray) : lwo (l ++ [p]) k = if p.1 = k then lwo l k else lwo l k ++ [p] := by
  rw [lwo_app, lwo_cons]
  by_cases h : p.1 = k
  · rw [if_pos h, if_pos h]; simp [lwo]
  · rw [if_neg h, if_neg h]; simp [lwo]
set_option maxHeartbeats 1000000 in
set_option maxRecDepth 100000 in
theorem rwithout_any {W : World} {A : Option Addr} {c : Nat} {l : List (ByteArray × Int)} (h : Lst W A c l) (k : ByteArray) (hlen : l.length ≤ 900000) :
    Calls Try.prog 27 #[.slice A l.length c, .string k] W fun e w' => ∃ A' c', e = .returned (.slice A' (lwo l k).length c') ∧ Lst w' A' c' (lwo l k) ∧ Fr (fun _ => False) W w' ∧ ∀ ad, A' = some ad → W.heap.size ≤ ad.block := by
  have H := Lib.hid h
  have hle := h.le
  have hmx := h.mx
  clear h
  go_enter Try.func27, Try.ntmps27
  go_wp2_with fail
  go_loopw [5, 6] (fun ov i wr => ∃ j : Nat, i = .int .i64 j ∧ j ≤ l.length ∧ RowK wr 59 2 ov (prs (lwo (l.take j) k)) ∧ Fr (fun _ => False) W wr ∧ (∀ q, ov.ownBlock = some q → W.heap.size ≤ q)) (fun _ i _ => l.length - (intOf i).toNat)
  case atStart => exact ⟨0, rfl, Nat.zero_le _, RowK.nil _ _ _, Fr.refl _ _, (fun q hq => by simp [Value.ownBlock] at hq)⟩
  case round =>
    obtain ⟨j, rfl, hj, hR, hf, hn⟩ := hrel
    by_cases hjl : j < l.length
    · have hp : l[j]? = some (l[j]'hjl) := List.getElem?_eq_getElem _
      obtain ⟨ad, rfl, c0, c1⟩ := (H.out.new hf).cells hp
      have htk : Hid (lwo (l.take (j + 1)) k = if (l[j]'hjl).1 = k then lwo (l.take j) k else lwo (l.take j) k ++ [l[j]'hjl]) := by
        unfold Hid
        rw [List.take_add_one, hp]
        exact lwo_snoc _ _ _
      have hlen' : Hid (((prs (lwo (l.take j) k)).length + 1) * 24 ≤ 140737488355328) := by
        unfold Hid
        rw [prs_len]
        have h1 : (lwo (l.take j) k).length ≤ (l.take j).length := List.length_filter_le _ _
        rw [List.length_take] at h1
        omega
      generalize l[j]'hjl = p at hp c0 c1 htk
      obtain ⟨pk, pv⟩ := p
      simp only at htk c0 c1
      generalize lwo (l.take j) k = ll at hR htk hlen'
      clear hp
      by_cases ce : pk = k
      · subst ce
        rw [if_pos rfl] at htk
        go_wp2_with fail
        go_roundw
        case rel => exact ⟨j + 1, by go_num, by omega, by rw [htk.out]; exact hR, hf, hn⟩
        case measure => simp [intOf]; omega
      · rw [if_neg ce] at htk
        have t2 := toList_ne ce
        clear ce
        go_wp2_with (at_builtin; go_must (refine appK rfl _ _ 41 59 (.agg #[.string ⟨#[]⟩, .int .i64 0]) 2 24 rfl Try.underlying41 infoPr rfl (by decide) (by decide) u5 (prs ll) [.string pk, .int .i64 pv] rfl rfl rfl (by simp [Value.oneCell']) hR hlen'.out ?_); intro g c' w1 hR1 hor1 hf1 _)
        go_roundw
        case rel =>
          refine ⟨j + 1, by go_num, by omega, ?_, hf.trans hf1 (fun i hi hh => by have := hn i hh; omega), fun q hq => ?_⟩
          · rw [htk.out, prs_snoc]
            exact hR1
          · have hq' : g = q := by simpa [Value.ownBlock] using hq
            subst hq'
            rcases hor1 with h' | h'
            · exact hn _ h'
            · have := hf.size; omega
        case measure => simp [intOf]; omega
    · obtain rfl : j = l.length := by omega
      rw [List.take_of_length_le (Nat.le_refl _)] at hR
      have hl : l.length ≤ l.length := Nat.le_refl _
      go_wp2_with fail
      go_ret
      obtain ⟨A', c', rfl, hL, hA⟩ := Lst.ofRow hR
      exact ⟨A', c', rfl, hL, hf, fun ad had => hn _ (hA ad had)⟩
set_option maxHeartbeats 1000000 in
set_option maxRecDepth 100000 in
theorem rget_any {W : World} {A : Option Addr} {c : Nat} {l : List (ByteArray × Int)} (h : Lst W A c l) (k : ByteArray) (hlen : l.length ≤ 900000) :
    Calls Try.prog 15 #[.slice A l.length c, .string k] W fun e w' => e = .returned (.tuple #[.int .i64 ((lget l k).getD 0), .bool (lget l k).isSome]) ∧ W = w' := by
  have H := Lib.hid h
  have hle := h.le
  have hmx := h.mx
  clear h
  go_enter Try.func15, Try.ntmps15
  go_wp2_with fail
  go_loop [6] (fun i => ∃ j : Nat, i = .int .i64 j ∧ j ≤ l.length ∧ ∀ p ∈ l.take j, p.1 ≠ k) (fun i => l.length - (intOf i).toNat)
  case atStart => exact ⟨0, rfl, Nat.zero_le _, fun p hp => by simp at hp⟩
  case round =>
    obtain ⟨j, rfl, hj, hall⟩ := hrel
    by_cases hjl : j < l.length
    · have hp : l[j]? = some (l[j]'hjl) := List.getElem?_eq_getElem _
      obtain ⟨ad, rfl, c0, c1⟩ := H.out.cells hp
      have htk : l.take (j + 1) = l.take j ++ [l[j]'hjl] := by rw [List.take_add_one, hp]; rfl
      have hdr : l = l.take j ++ (l[j]'hjl) :: l.drop (j + 1) := by rw [← List.drop_eq_getElem_cons hjl, List.take_append_drop]
      generalize l[j]'hjl = p at hp c0 c1 htk hdr
      obtain ⟨pk, pv⟩ := p
      simp only at c0 c1
      by_cases ce : pk = k
      · subst ce
        have hg : Hid (lget l pk = some pv) := by
          unfold Hid
          rw [hdr, lget_app_right hall]
          simp [lget]
        clear hdr htk hall hp
        go_wp2_with fail
        go_ret2
        rw [hg.out]
        exact ⟨rfl, rfl⟩
      · have t2 := toList_ne ce
        have hall' : Hid (∀ q ∈ l.take (j + 1), q.1 ≠ k) := by
          unfold Hid
          rw [htk]
          intro q hq
          rcases List.mem_append.1 hq with hq | hq
          · exact hall q hq
          · rw [List.mem_singleton.1 hq]; exact ce
        clear hdr htk hall hp ce
        go_wp2_with fail
        go_round
        case rel => exact ⟨j + 1, by go_num, by omega, hall'.out⟩
        case measure => simp [intOf]; omega
    · obtain rfl : j = l.length := by omega
      rw [List.take_of_length_le (Nat.le_refl _)] at hall
      have hg : Hid (lget l k = none) := lget_none hall
      clear hall
      go_wp2_with fail
      go_ret2
      rw [hg.out]
      exact ⟨rfl, rfl⟩
theorem bits_half (n : Nat) (h : 0 < n) : bits n = 1 + bits (n / 2) := by
  cases n with
  | zero => omega
  | succ n => rw [bits]
theorem bits_le : ∀ n, bits n ≤ n := by
  intro n
  induction n using Nat.strongRecOn with
  | _ n ih =>
    cases n with
    | zero => simp [bits]
    | succ m => rw [bits]; have := ih ((m + 1) / 2) (by omega); omega
set_option maxHeartbeats 1000000 in
theorem rhigh_any (n : Nat) (hn : n ≤ 900000) (W : World) : Calls Try.prog 20 #[.int .i64 (n : Int)] W fun e w' => e = .returned (.int .i64 (highOf n : Int)) ∧ W = w' := by
  go_enter Try.func20, Try.ntmps20
  go_wp2_with fail
  go_loop [0, 3] (fun i d => ∃ j m : Nat, i = .int .i64 j ∧ d = .int .i64 m ∧ m + bits j = bits (n + 1) ∧ j ≤ 900001 ∧ m + j ≤ n + 1) (fun i _ => (intOf i).toNat)
  case atStart => exact ⟨n + 1, 0, by go_num, rfl, by simp, by omega, by omega⟩
  case round =>
    obtain ⟨j, m, rfl, rfl, hb, hj, hm⟩ := hrel
    by_cases h0 : 0 < j
    · have hb2 : Hid (m + 1 + bits (j / 2) = bits (n + 1)) := by unfold Hid; rw [bits_half j h0] at hb; omega
      clear hb
      go_wp2
      go_round
      case rel => exact ⟨j / 2, m + 1, by go_num, by go_num, hb2.out, by omega, by omega⟩
      case measure => simp [intOf]; omega
    · obtain rfl : j = 0 := by omega
      have e : m = bits (n + 1) := by simpa [bits] using hb
      have he : Hid ((highOf n : Int) = (3 * (m : Int) + 1) / 2) := by unfold Hid highOf; rw [← e]; omega
      clear hb e
      go_wp2
      go_ret
      exact ⟨ret_int he.out.symm, rfl⟩
/-! ### The script -/
structure Op3 where
  kind : Int
  key : ByteArray
  val : Int
def opc (o : Op3) : List Value := [.int .i64 o.kind, .string o.key, .int .i64 o.val]
def ops3 (s : List Op3) : List (List Value) := s.map opc
theorem ops3_len (s : List Op3) : (ops3 s).length = s.length := by simp [ops3]
theorem ops3_three (s : List Op3) : ∀ y ∈ ops3 s, y.length = 3 := fun y hy => by obtain ⟨p, _, rfl⟩ := List.mem_map.1 hy; rfl
theorem ops3_cells {W : World} {A : Option Addr} {s : List Op3} (h : Rd W A (ops3 s).flatten) {i : Nat} {o : Op3} (hi : s[i]? = some o) :
    ∃ ad, A = some ad ∧ W.cell? (ad.add (i * 3)) = some (.int .i64 o.kind) ∧ W.cell? ⟨(ad.add (i * 3)).block, (ad.add (i * 3)).off + 1, none⟩ = some (.string o.key) ∧ W.cell? ⟨(ad.add (i * 3)).block, (ad.add (i * 3)).off + 2, none⟩ = some (.int .i64 o.val) := by
  have hy : (ops3 s)[i]? = some (opc o) := by simp [ops3, hi]
  obtain ⟨ad, e, h0⟩ := h (i * 3 + 0) (.int .i64 o.kind) (by rw [flat_at (ops3 s) (ops3_three s) i 0 _ hy (by decide)]; rfl)
  obtain ⟨ad', e', h1⟩ := h (i * 3 + 1) (.string o.key) (by rw [flat_at (ops3 s) (ops3_three s) i 1 _ hy (by decide)]; rfl)
  obtain ⟨ad'', e'', h2⟩ := h (i * 3 + 2) (.int .i64 o.val) (by rw [flat_at (ops3 s) (ops3_three s) i 2 _ hy (by decide)]; rfl)
  rw [e] at e' e''
  injection e' with e'
  injection e'' with e''
  subst e'
  subst e''
  have a2 : ∀ a : Addr, a.add 2 = ⟨a.block, a.off + 2, none⟩ := fun a => by unfold Addr.add; rw [if_neg (by omega)]
  exact ⟨ad, e, h0, by rw [← add_one, add_add]; exact h1, by rw [← a2, add_add]; exact h2⟩
def FewP (W : World) (n : Nat) (e : Ending) (w' : World) : Prop := ∃ b, e = .returned (.bool b) ∧ (b = true → n ≤ 300) ∧ W = w'
set_option maxHeartbeats 1000000 in
set_option maxRecDepth 100000 in
theorem few_any {W : World} {A : Option Addr} {n cp : Nat} {s : List Op3} (hs : s.length = n) (h : Rd W A (ops3 s).flatten) (hn : n ≤ 9223372036854775807) :
    Calls Try.prog 12 #[.slice A n cp] W (FewP W n) := by
  go_enter Try.func12, Try.ntmps12
  go_wp2_with fail
  go_loop [3, 4] (fun t i => ∃ j m : Nat, i = .int .i64 j ∧ t = .int .i64 m ∧ j ≤ n ∧ j ≤ 300 ∧ m ≤ j * 10000) (fun _ i => n - (intOf i).toNat)
  case atStart => exact ⟨0, 0, rfl, rfl, Nat.zero_le _, Nat.zero_le _, Nat.zero_le _⟩
  case round =>
    obtain ⟨j, m, rfl, rfl, hj, h3, hm⟩ := hrel
    by_cases hjl : j < n
    · by_cases h300 : j < 300
      · have hjs : j < s.length := by omega
        obtain ⟨ad, rfl, _, c1, _⟩ := ops3_cells h (List.getElem?_eq_getElem hjs)
        generalize (s[j]'hjs).key = key at c1
        have g1 : (j : Int) < 300 := by omega
        by_cases hk : key.size ≤ 10000
        · go_wp2_with fail
          go_round
          case rel => exact ⟨j + 1, m + key.size, by go_num, by go_num, by omega, by omega, by omega⟩
          case measure => simp [intOf]; omega
        · go_wp2_with fail
          go_ret
          exact ⟨_, rfl, fun h => (by cases h), rfl⟩
      · go_wp2_with fail
        go_ret
        exact ⟨_, rfl, fun h => (by cases h), rfl⟩
    · obtain rfl : j = n := by omega
      go_wp2_with fail
      go_ret
      exact ⟨_, rfl, fun _ => h3, rfl⟩
end Go.Proofs.Ytkodepdbnkghfaa

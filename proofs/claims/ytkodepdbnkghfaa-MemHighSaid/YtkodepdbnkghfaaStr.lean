/- Bytes as a string; a region that draws its order and whose calls only lay new memory. Conditions: those of the lemmas. -/
import Derived.Test.YtkodepdbnkghfaaBase
import Derived.Laws.BytesArg
namespace Go.Proofs.Ytkodepdbnkghfaa
open Go.RowKit
theorem run_str {P : Program} (w : World) (src e dst : TypeId) (hs : P.underlying src = some (.slice e)) (he : P.underlying e = some (.int .u8)) (hd : P.underlying dst = some .string) (A : Option Addr) (n cap : Nat) (bs : List Int) (hn : bs.length = n)
    (h : Rd w A (bs.map (Value.int .u8))) : (convert src dst (.slice A n cap)).run P w = .ok (.string (strOfNums bs)) w := by
  rcases A with _ | ad
  · have hb : bs = [] := by
      rcases bs with _ | ⟨b, bs⟩
      · rfl
      · obtain ⟨_, e, _⟩ := h 0 (.int .u8 b) rfl
        cases e
    subst hb
    exact run_convert_bytes_nil w src e hs he n cap dst hd
  · have hl : (loadCells ad n).run P w = .ok (bs.map (Value.int .u8)).toArray w := by
      have := run_loadCells_list (P := P) w ad (bs.map (Value.int .u8)) (fun j v hj => by
        obtain ⟨ad', e', hc⟩ := h j v hj
        cases e'
        exact hc)
      simpa [hn] using this
    rw [run_convert_bytes_string w src dst e _ n cap hs he hd, run_bytesToString w _ n cap bs hl, foldl_push_bytes]
    simp [strOfNums, ByteArray.empty, ByteArray.emptyWithCapacity]
    rfl
/-- A region that draws its order, whose operations leave the world alone and whose calls only lay new memory: one walk in the order of the text. -/
theorem wp_region_grow {P : Program} {id : Nat} {Q : Exit → Act → World → Prop} {a : Act} {w : World} {l : List Oper} (hm : P.follows .mixedOrders = true) (hB : Region.lexB .any l.toArray = true)
    (h : wpQuiet P l.toArray (fun w' => Fr (fun _ => False) w w') (fun a' => ∀ w', Fr (fun _ => False) w w' → Q .normal a' w') l a) : (Code.region id l.toArray true).wp P Q a w :=
  wp_region_quiet (C := fun w' => Fr (fun _ => False) w w') hm hB (Fr.refl _ _).drew (by simpa using h)
end Go.Proofs.Ytkodepdbnkghfaa

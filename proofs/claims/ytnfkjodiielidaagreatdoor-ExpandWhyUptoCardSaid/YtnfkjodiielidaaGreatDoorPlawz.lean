/- What the rows' proofs of layers 14 and 15 share: the words' cells; a world for the witness; numbers that came in. -/
import Derived.Test.YtnfkjodiielidaaGreatDoorCards
import Derived.Test.YtnfkjodiielidaaGreatDoorTie
import Derived.Test.YtnfkjodiielidaaGreatDoorOkinds
import Derived.Test.YtnfkjodiielidaaGreatDoorWform
import Derived.WalkKit
import Derived.ProofKit
import Derived.OpenShut
import Derived.JoinedCond
import Derived.Carry
import Derived.Deep.DeepHandedRow
import Derived.Lib.LaidTab
namespace Go.Proofs.YtnfkjodiielidaaGreatDoor
set_option linter.unusedVariables false
set_option linter.unusedSimpArgs false
open Go.ChangeShapes Go.WideShapes Go.ChangeAt Go.RowKit

set_option maxRecDepth 100000
theorem own : ownKnob Tryz.prog.godebug = none := by kernel_rfl
theorem laidOut : laidOutB Tryz.prog = true := by kernel_rfl
theorem gWords : Tryz.prog.globalNamed "lunette/rule.words" = some 0 := by kernel_rfl
theorem gWordsType : (Tryz.prog.globals[0]?).map (·.type) = some 191 := by kernel_rfl
theorem cells_words : Tryz.prog.cellsOf 191 = 6 := by kernel_rfl
/-- An array of texts that reads as the list holds the list's texts. -/
theorem cells_of_strs {H : Type} {enc : TypeId × Value → H} {P : Program} {w : World} {base : Nat} {sp : Nat → Bool} {held : Bool} {fuel : Nat} {t e : TypeId} {n : Nat} {cs : List Value} {zs : List ByteArray} {p : List MemPlace}
    (ht : P.underlying t = some (.array n e)) (he : P.underlying e = some .string) (hce : P.cellsOf e = 1) (hct : P.cellsOf t = n)
    (h : DataW.trod enc P w base sp held fuel t cs = some (.agg (zs.map fun z => .lit (.string z.data.toList)), p)) : cs = zs.map Value.string := by
  cases fuel with
  | zero => simp [DataW.trod] at h
  | succ fuel =>
    simp only [DataW.trod, ht, hce, hct, Nat.mul_one] at h
    split at h
    · rename_i hl
      obtain ⟨xs, hm, hx⟩ := Option.map_eq_some_iff.1 h
      have hxs : xs.map (·.1) = zs.map fun z => (DataW.lit (.string z.data.toList) : DataW H) := by
        have := congrArg Prod.fst hx
        simpa using this
      have hxl : xs.length = n := by simpa using Lib.mapM_length hm
      have hzl : zs.length = n := by
        have := congrArg List.length hxs
        simp at this
        omega
      apply List.ext_getElem?
      intro i
      by_cases hi : i < n
      · obtain ⟨b, hb, hf⟩ := Lib.mapM_at hm i i (by simp [hi])
        obtain ⟨s, hc, rfl, _⟩ := DataW.trod_string he hf
        have h1 : cs[i]? = some (.string s) := by
          have := congrArg (·[0]?) hc
          simpa [List.getElem?_take, List.getElem?_drop] using this
        have h2 : (xs.map (·.1))[i]? = some (DataW.lit (.string s.data.toList) : DataW H) := by simp [hb]
        rw [hxs] at h2
        simp only [List.getElem?_map, Option.map_eq_some_iff, DataW.lit.injEq, Lit.string.injEq] at h2
        obtain ⟨z', hz', hzz⟩ := h2
        have hsz : z' = s := by
          obtain ⟨⟨a⟩⟩ := z'
          obtain ⟨⟨b⟩⟩ := s
          simp at hzz
          rw [hzz]
        rw [h1, List.getElem?_map, hz', hsz]
        rfl
      · rw [List.getElem?_eq_none (by omega), List.getElem?_eq_none (by simp; omega)]
    · cases h
theorem words_laid {H : Type} : (Rows.laid_lunette_rule_words : DataW H) = .agg (words.map fun z => .lit (.string z.data.toList)) := rfl
/-- What the row's list gives. -/
theorem words_of_laid {W : World} (h : laidMetH Tryz.prog [("lunette/rule.words", Rows.laid_lunette_rule_words)] W) : WordsAt W := by
  have h2 : laidMet Tryz.prog [("lunette/rule.words", Rows.laid_lunette_rule_words)] W := h
  obtain ⟨ps, ⟨g', t', cs, fuel, p, q, hg', ht', hvar, hd, _, _⟩, _⟩ := h2
  obtain rfl := Option.some.inj (gWords.symm.trans hg')
  obtain rfl := Option.some.inj (gWordsType.symm.trans ht')
  rw [words_laid] at hd
  have hcs := cells_of_strs Tryz.underlying191 Tryz.underlying9 cells_str cells_words hd
  obtain rfl : cs = (words.map Value.string).toArray := by rw [← hcs, Array.toArray_toList]
  have hc := fun i => World.var?_cell gWords hvar i
  have hcell : ∀ k, k < 6 → W.cell? ⟨0, k, none⟩ = some (.string (words.getD k ⟨#[]⟩)) := fun k hk => by
    rw [hc k]
    have hl : words.length = 6 := rfl
    rw [List.getElem?_toArray, List.getElem?_map, List.getElem?_eq_getElem (by omega), List.getD_eq_getElem?_getD, List.getElem?_eq_getElem (by omega)]
    rfl
  have h0 : 0 < W.heap.size := World.block_lt_of_cell? _ _ (hcell 0 (by omega))
  unfold WordsAt
  refine .cons 1 (words.map fun s => [D.str s]) 0 0 6 (fun k _ => .string (words.getD k ⟨#[]⟩)) (by simp [words]) rfl h0 (by simp [words]) (by simp [words]) (fun k j hk hj => ?_) (fun k j hk hj => ?_)
  · obtain rfl : j = 0 := by omega
    have := hcell k (by simpa [words] using hk)
    simpa using this
  · obtain rfl : j = 0 := by omega
    have hk' : k < words.length := by simpa using hk
    have : D.nth (words.map fun s => [D.str s]) k 0 = .str (words.getD k ⟨#[]⟩) := by
      unfold D.nth
      rw [List.getD_eq_getElem?_getD (l := words.map _), List.getElem?_map, List.getElem?_eq_getElem hk', List.getD_eq_getElem?_getD (l := words), List.getElem?_eq_getElem hk']
      rfl
    rw [this]
    exact .str _
/-- A world for the witness: the settled one, the words laid. -/
noncomputable def laidWorld (os : Os) : World :=
  { World.holding Tryz.prog os ⟨#[], #[], []⟩ with heap := (World.holding Tryz.prog os ⟨#[], #[], []⟩).heap.modify 0 fun
      | .cells _ t frozen => .cells #[.string sThis, .string sOr, .string sAnd, .string sBut, .string sFrom, .string sKind] t frozen
      | o => o }
theorem bk_of {H : Type} {d : DataW H} {ds : List (DataW H)} (hk : Rows.uptoSmall H ds = true) (hm : d ∈ ds) : Rows.uptoBulk d ≤ 1048576 :=
  Nat.le_trans (bk_mem hm) (of_decide_eq_true hk)
theorem u8_range {n : Int} (h : (Lit.int .u8 n).wf = true) : 0 ≤ n ∧ n ≤ 255 := by
  simp [Lit.wf, IntKind.min, IntKind.max, IntKind.bits, IntKind.signed] at h
  omega
theorem open_byte {H : Type} {enc : TypeId × Value → H} {W : World} {base : Nat} {spare : Nat → Bool} {held : Bool} {r : Go.Reach} {b0 : Nat} {v : Value} {d : DataW H} {p : List MemPlace} (hv : Value.okWide Tryz.prog W r b0 5 v) (h : DataW.Trod enc Tryz.prog W base spare held 5 v d p) : ∃ n : Int, v = .int .u8 n ∧ (0 ≤ n ∧ n ≤ 255) := by
  obtain ⟨n, rfl, _, _, hw⟩ := open_int Tryz.underlying5 hv h
  exact ⟨n, rfl, u8_range hw⟩
end Go.Proofs.YtnfkjodiielidaaGreatDoor

/- Drop: a set without a tuple. Find: those that a filter means. -/
import Derived.Test.YtnfkjodiielidaaGreatWclone
import Derived.Shelf.Abstract
namespace Go.Proofs.YtnfkjodiielidaaGreat
set_option linter.unusedVariables false
set_option linter.unusedSimpArgs false
open Go.RowKit

def dropS (S : List LTuple) (t : LTuple) : List LTuple := S.erase t
theorem del_unit (t : LTuple) (S : List LTuple) : delM t (S.map fun t => (t, ())) = (S.erase t).map fun t => (t, ()) := by
  induction S with
  | nil => rfl
  | cons x S ih =>
    simp only [List.map_cons, delM, List.erase_cons]
    by_cases h : t = x
    · subst h; simp
    · rw [if_neg h, ih]
      have : (x == t) = false := by simp; exact fun e => h e.symm
      rw [this]; simp

set_option maxRecDepth 100000 in
set_option maxHeartbeats 1000000 in
theorem facts_Drop {w : World} {fb mb : Nat} {S : List LTuple} (h : FactsAt w fb mb S) (t : LTuple) :
    Calls Tryz.prog 22 #[.pointer (some ⟨fb, 0, none⟩), t.val] w fun r w' => r = .returned (.bool (decide (t ∈ S))) ∧ FactsAt w' fb mb (dropS S t) ∧ Fr (fun k => k = mb) w w' := by
  obtain ⟨a, b, c, ⟨d, e, f⟩⟩ := t
  have hne := h.ne
  have hmlt := h.2.lt
  have hflt := h.lt
  have hB : Below w.heap.size w (w.alloc (.cells #[.string a, .string b, .string c, .string d, .string e, .string f] 49)) := (Below.refl _ w).alloc (Nat.le_refl _) _
  have hhas := fun W (hW : FactsAt W fb mb S) => facts_Has hW a b c d e f
  have HFa := Lib.hid h
  have HH := Lib.hid hhas
  have HMl := Lib.hid hmlt
  have HFl := Lib.hid hflt
  have HNe := Lib.hid hne
  generalize decide (_ ∈ S) = bb at *
  clear h hne hmlt hflt hhas
  unfold LTuple.val at *
  go_enter Tryz.func22, Tryz.ntmps22
  go_wp2_with fail
  refine (HH.out _ (HFa.out.below hB)).mono ?_
  rintro r w2 ⟨rfl, hb2⟩
  have hB2 := below_past hB hb2
  obtain ⟨hc2, hf2⟩ := bcell hb2
  have hfa := HFa.out.below hB2
  have hp := hfa.1
  obtain ⟨o, hu, hm2⟩ := run_delete (ty := 0) keyT_tuple (ats := #[46, 49]) rfl Tryz.underlying46 (w := w2.drew) hfa.2 ⟨a, b, c, ⟨d, e, f⟩⟩
  rw [del_unit] at hm2
  have HM2 := Lib.hid hm2
  clear hfa hm2
  unfold LTuple.val at hu
  go_wp2
  go_still_tail 5, (by kernel_rfl)
  change wpList _ _ _ _ _ w2.drew
  go_wp2
  go_ret
  have hB3 : Below w.heap.size w w2.drew := hB2.drew
  exact ⟨rfl, ⟨((setB_fr _ _ _).cell (World.block_lt_of_cell? w2 _ hp) HNe.out).trans hp, HM2.out⟩, fr_of_below_setB hB3 HMl.out⟩
end Go.Proofs.YtnfkjodiielidaaGreat

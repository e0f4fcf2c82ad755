/- What the rows' proofs share: how much came in. -/
import Derived.Test.YtnfkjodiielidaaGreatOpen
import Derived.Test.YtnfkjodiielidaaGreatRows
import Derived.WalkKit
import Derived.ProofKit
import Derived.OpenShut
import Derived.JoinedCond
import Derived.Carry
namespace Go.Proofs.YtnfkjodiielidaaGreat
set_option linter.unusedVariables false
set_option linter.unusedSimpArgs false
open Go.ChangeShapes Go.WideShapes Go.ChangeAt Go.RowKit

theorem own : ownKnob Tryz.prog.godebug = none := by kernel_rfl
theorem laidOut : laidOutB Tryz.prog = true := by kernel_rfl
theorem bulk_one_le {H : Type} (d : DataW H) : 1 ≤ Rows.uptoBulk d := by
  cases d with
  | lit l => cases l <;> simp [Rows.uptoBulk]
  | nil => simp [Rows.uptoBulk]
  | ptr d => simp [Rows.uptoBulk]
  | slice elems spare => simp [Rows.uptoBulk]
  | agg parts => simp [Rows.uptoBulk]
  | iface t d => simp [Rows.uptoBulk]
  | map entries => simp [Rows.uptoBulk]
  | held h => simp [Rows.uptoBulk]
theorem bulk_length {H : Type} (l : List (DataW H)) : l.length ≤ Rows.uptoBulkAll l := by
  induction l with
  | nil => simp [Rows.uptoBulkAll]
  | cons x r ih => have := bulk_one_le x; simp only [Rows.uptoBulkAll, List.length_cons]; omega
theorem bulk_mem {H : Type} {d : DataW H} {l : List (DataW H)} (h : d ∈ l) : Rows.uptoBulk d ≤ Rows.uptoBulkAll l := by
  induction l with
  | nil => cases h
  | cons x r ih =>
    simp only [Rows.uptoBulkAll]
    rcases List.mem_cons.1 h with e | h
    · subst e; omega
    · have := ih h; omega
set_option maxRecDepth 100000 in
/-- How many elements a slice that came in has. -/
theorem bulk_slice {H : Type} {d : DataW H} {ds : List (DataW H)} {n : Nat} (hk : Rows.uptoSmall H ds = true) (hm : d ∈ ds) (h : (d = .nil ∧ n = 0) ∨ ∃ el sp, d = .slice el sp ∧ el.length = n) : n ≤ 1048576 := by
  have hb : Rows.uptoBulkAll ds ≤ 1048576 := of_decide_eq_true hk
  have hd := bulk_mem hm
  rcases h with ⟨_, rfl⟩ | ⟨el, sp, rfl, rfl⟩
  · omega
  · have := bulk_length el
    simp only [Rows.uptoBulk] at hd
    omega
theorem u8_range {n : Int} (h : (Lit.int .u8 n).wf = true) : 0 ≤ n ∧ n ≤ 255 := by
  simp [Lit.wf, IntKind.min, IntKind.max, IntKind.bits, IntKind.signed] at h
  omega
set_option maxRecDepth 100000
section
variable {H : Type} {enc : TypeId × Value → H} {W : World} {base : Nat} {spare : Nat → Bool} {held : Bool}
theorem open_int64 {r : Reach} {b0 : Nat} {v : Value} {d : DataW H} {p : List MemPlace} (hv : Value.okWide Tryz.prog W r b0 3 v) (h : DataW.Trod enc Tryz.prog W base spare held 3 v d p) : ∃ n : Int, v = .int .i64 n ∧ True ∧ (Lit.int .i64 n).wf = true := by
  obtain ⟨n, rfl, _, _, hw⟩ := open_int Tryz.underlying3 hv h
  exact ⟨n, rfl, trivial, hw⟩
theorem open_byte {r : Reach} {b0 : Nat} {v : Value} {d : DataW H} {p : List MemPlace} (hv : Value.okWide Tryz.prog W r b0 5 v) (h : DataW.Trod enc Tryz.prog W base spare held 5 v d p) : ∃ n : Int, v = .int .u8 n ∧ (0 ≤ n ∧ n ≤ 255) := by
  obtain ⟨n, rfl, _, _, hw⟩ := open_int Tryz.underlying5 hv h
  exact ⟨n, rfl, u8_range hw⟩
end
end Go.Proofs.YtnfkjodiielidaaGreat

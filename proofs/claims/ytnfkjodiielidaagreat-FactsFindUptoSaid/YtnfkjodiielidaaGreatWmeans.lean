/- Find: the tuples that a filter means, in order, at most so many. -/
import Derived.Test.YtnfkjodiielidaaGreatWdrop
namespace Go.Proofs.YtnfkjodiielidaaGreat
set_option linter.unusedVariables false
set_option linter.unusedSimpArgs false
open Go.RowKit

def isB (told s : ByteArray) : Bool := decide (told = sNil) || decide (told = s)
where sNil : ByteArray := ⟨#[]⟩
/-- Whether a filter (of a tuple's fields) means a tuple. -/
def meansB (x t : LTuple) : Bool := isB x.kind t.kind && isB x.id t.id && isB x.rel t.rel && isB x.user.kind t.user.kind && isB x.user.id t.user.id && isB x.user.rel t.user.rel

set_option maxRecDepth 100000 in
theorem means1 (a b : ByteArray) (w : World) : Calls Tryz.prog 48 #[.string a, .string b] w fun e w' => e = .returned (.bool (isB a b)) ∧ w' = w := by
  have e : isB a b = (decide (a = ⟨#[]⟩) || decide (a = b)) := rfl
  have e0 : a.toList.isEmpty = decide (a = ⟨#[]⟩) := by
    by_cases h : a = ⟨#[]⟩
    · subst h; simp
    · have : a.toList ≠ [] := fun e => h (bytes_toList_inj (by rw [e]; simp))
      simp [h, this]
  have e2 : (a.toList = []) = (decide (a = ⟨#[]⟩) = true) := by
    rw [← e0]; simp
  have e1 := toList_beq a b
  rw [e]
  clear e
  generalize decide (a = ⟨#[]⟩) = b0 at *
  generalize decide (a = b) = b1 at *
  cases b0 <;> cases b1
  all_goals
    simp only [Bool.false_eq_true, eq_self_iff_true] at e2
    go_enter Tryz.func48, Tryz.ntmps48
    go_wp2
    go_ret
    exact ⟨rfl, rfl⟩

set_option maxRecDepth 100000 in
set_option maxHeartbeats 4000000 in
theorem facts_means (x t : LTuple) (w : World) : Calls Tryz.prog 27 #[x.val, t.val] w fun e w' => e = .returned (.bool (meansB x t)) ∧ Below w.heap.size w w' := by
  have m0 := fun W => means1 x.kind t.kind W
  have m1 := fun W => means1 x.id t.id W
  have m2 := fun W => means1 x.rel t.rel W
  have m3 := fun W => means1 x.user.kind t.user.kind W
  have m4 := fun W => means1 x.user.id t.user.id W
  have m5 := fun W => means1 x.user.rel t.user.rel W
  have hB : Below w.heap.size w ((w.alloc (.cells x.cells.toArray 26)).alloc (.cells t.cells.toArray 49)) := ((Below.refl _ w).alloc (Nat.le_refl _) _).alloc (by simp) _
  unfold meansB
  generalize isB x.kind t.kind = b0 at *
  generalize isB x.id t.id = b1 at *
  generalize isB x.rel t.rel = b2 at *
  generalize isB x.user.kind t.user.kind = b3 at *
  generalize isB x.user.id t.user.id = b4 at *
  generalize isB x.user.rel t.user.rel = b5 at *
  have M0 := Lib.hid m0; have M1 := Lib.hid m1; have M2 := Lib.hid m2; have M3 := Lib.hid m3; have M4 := Lib.hid m4; have M5 := Lib.hid m5
  clear m0 m1 m2 m3 m4 m5
  unfold LTuple.val LTuple.cells at *
  cases b0
  · simp only [Bool.false_and, Bool.true_and]
    go_enter Tryz.func27, Tryz.ntmps27
    go_wp2_with (go_at_call 48; first | (with_reducible refine (M0.out _).mono ?_; rintro r w1 ⟨rfl, rfl⟩))
    go_ret
    exact ⟨rfl, hB⟩
  cases b1
  · simp only [Bool.false_and, Bool.true_and]
    go_enter Tryz.func27, Tryz.ntmps27
    go_wp2_with (go_at_call 48; first | (with_reducible refine (M0.out _).mono ?_; rintro r w1 ⟨rfl, rfl⟩) | (with_reducible refine (M1.out _).mono ?_; rintro r w1 ⟨rfl, rfl⟩))
    go_ret
    exact ⟨rfl, hB⟩
  cases b2
  · simp only [Bool.false_and, Bool.true_and]
    go_enter Tryz.func27, Tryz.ntmps27
    go_wp2_with (go_at_call 48; first | (with_reducible refine (M0.out _).mono ?_; rintro r w1 ⟨rfl, rfl⟩) | (with_reducible refine (M1.out _).mono ?_; rintro r w1 ⟨rfl, rfl⟩) | (with_reducible refine (M2.out _).mono ?_; rintro r w1 ⟨rfl, rfl⟩))
    go_ret
    exact ⟨rfl, hB⟩
  cases b3
  · simp only [Bool.false_and, Bool.true_and]
    go_enter Tryz.func27, Tryz.ntmps27
    go_wp2_with (go_at_call 48; first | (with_reducible refine (M0.out _).mono ?_; rintro r w1 ⟨rfl, rfl⟩) | (with_reducible refine (M1.out _).mono ?_; rintro r w1 ⟨rfl, rfl⟩) | (with_reducible refine (M2.out _).mono ?_; rintro r w1 ⟨rfl, rfl⟩) | (with_reducible refine (M3.out _).mono ?_; rintro r w1 ⟨rfl, rfl⟩))
    go_ret
    exact ⟨rfl, hB⟩
  cases b4
  · simp only [Bool.false_and, Bool.true_and]
    go_enter Tryz.func27, Tryz.ntmps27
    go_wp2_with (go_at_call 48; first | (with_reducible refine (M0.out _).mono ?_; rintro r w1 ⟨rfl, rfl⟩) | (with_reducible refine (M1.out _).mono ?_; rintro r w1 ⟨rfl, rfl⟩) | (with_reducible refine (M2.out _).mono ?_; rintro r w1 ⟨rfl, rfl⟩) | (with_reducible refine (M3.out _).mono ?_; rintro r w1 ⟨rfl, rfl⟩) | (with_reducible refine (M4.out _).mono ?_; rintro r w1 ⟨rfl, rfl⟩))
    go_ret
    exact ⟨rfl, hB⟩
  cases b5
  · simp only [Bool.false_and, Bool.true_and]
    go_enter Tryz.func27, Tryz.ntmps27
    go_wp2_with (go_at_call 48; first | (with_reducible refine (M0.out _).mono ?_; rintro r w1 ⟨rfl, rfl⟩) | (with_reducible refine (M1.out _).mono ?_; rintro r w1 ⟨rfl, rfl⟩) | (with_reducible refine (M2.out _).mono ?_; rintro r w1 ⟨rfl, rfl⟩) | (with_reducible refine (M3.out _).mono ?_; rintro r w1 ⟨rfl, rfl⟩) | (with_reducible refine (M4.out _).mono ?_; rintro r w1 ⟨rfl, rfl⟩) | (with_reducible refine (M5.out _).mono ?_; rintro r w1 ⟨rfl, rfl⟩))
    go_ret
    exact ⟨rfl, hB⟩
  simp only [Bool.and_true]
  go_enter Tryz.func27, Tryz.ntmps27
  go_wp2_with (go_at_call 48; first | (with_reducible refine (M0.out _).mono ?_; rintro r w1 ⟨rfl, rfl⟩) | (with_reducible refine (M1.out _).mono ?_; rintro r w1 ⟨rfl, rfl⟩) | (with_reducible refine (M2.out _).mono ?_; rintro r w1 ⟨rfl, rfl⟩) | (with_reducible refine (M3.out _).mono ?_; rintro r w1 ⟨rfl, rfl⟩) | (with_reducible refine (M4.out _).mono ?_; rintro r w1 ⟨rfl, rfl⟩) | (with_reducible refine (M5.out _).mono ?_; rintro r w1 ⟨rfl, rfl⟩))
  go_ret
  exact ⟨rfl, hB⟩
end Go.Proofs.YtnfkjodiielidaaGreat

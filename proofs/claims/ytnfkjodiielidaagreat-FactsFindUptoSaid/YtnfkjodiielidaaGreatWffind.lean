/- Find: the tuples that a filter means, in order, at most so many. -/
import Derived.Test.YtnfkjodiielidaaGreatWmeans
import Derived.Test.YtnfkjodiielidaaGreatWrow
namespace Go.Proofs.YtnfkjodiielidaaGreat
set_option linter.unusedVariables false
set_option linter.unusedSimpArgs false
open Go.RowKit

set_option maxRecDepth 100000 in
set_option maxHeartbeats 1000000 in
theorem find1 (x : LTuple) (B : Nat) (w : World) (hB : B < w.heap.size) (hc : w.heap[B]? = some (.cells x.cells.toArray 26)) : HoldsAt w 26 #[.pointer (some ⟨B, 0, none⟩)] (meansB x) := by
  intro W hW t
  have hc2 := (hW.block B hB).trans hc
  have hlt : B < W.heap.size := by have := hW.size; omega
  have c0 : W.cell? ⟨B, 0, none⟩ = some (.string x.kind) := by simp [World.cell?, hc2, LTuple.cells]
  have c1 : W.cell? ⟨B, 1, none⟩ = some (.string x.id) := by simp [World.cell?, hc2, LTuple.cells]
  have c2 : W.cell? ⟨B, 2, none⟩ = some (.string x.rel) := by simp [World.cell?, hc2, LTuple.cells]
  have c3 : W.cell? ⟨B, 3, none⟩ = some (.string x.user.kind) := by simp [World.cell?, hc2, LTuple.cells]
  have c4 : W.cell? ⟨B, 4, none⟩ = some (.string x.user.id) := by simp [World.cell?, hc2, LTuple.cells]
  have c5 : W.cell? ⟨B, 5, none⟩ = some (.string x.user.rel) := by simp [World.cell?, hc2, LTuple.cells]
  have hm := fun W => facts_means x t W
  have HM := Lib.hid hm
  clear hm hc hc2 hB hW
  show Calls Tryz.prog _ #[t.val, .pointer (some ⟨B, 0, none⟩)] W _
  unfold LTuple.val at *
  go_enter Tryz.func26, Tryz.ntmps26
  go_wp2_with fail
  refine (HM.out _).mono ?_
  rintro e w1 ⟨rfl, hb1⟩
  go_wp2
  go_ret
  exact ⟨rfl, below_past ((Below.refl _ W).alloc (Nat.le_refl _) _) hb1⟩

set_option maxRecDepth 100000 in
set_option maxHeartbeats 1000000 in
theorem facts_Find {w : World} {fb mb : Nat} {S : List LTuple} (h : FactsAt w fb mb S) (hS : S.length ≤ 1000000000000) (x : LTuple) (most : Int) :
    Calls Tryz.prog 9 #[.pointer (some ⟨fb, 0, none⟩), x.val, .int .i64 most] w fun e w' => ∃ v, e = .returned v ∧ OwnL w' w.heap.size 49 6 LTuple.cells v (((canon tLess S).filter (meansB x)).take most.toNat) ∧ Below w.heap.size w w' := by
  have hB : Below w.heap.size w (w.alloc (.cells x.cells.toArray 26)) := (Below.refl _ w).alloc (Nat.le_refl _) _
  have hcon := facts_which (h.below hB) 26 #[.pointer (some ⟨w.heap.size, 0, none⟩)] _ (find1 x w.heap.size _ (by simp) (heap_alloc_at rfl)) (enters_of Tryz.func26 (by kernel_rfl) rfl) hS
  rw [← canon_filter lin_tLess] at hcon
  have hlen : ((canon tLess S).filter (meansB x)).length ≤ 1000000000000 := Nat.le_trans (List.length_filter_le _ _) (Nat.le_trans (canon_length_le _) hS)
  generalize (canon tLess S).filter (meansB x) = L at *
  have HC := Lib.hid hcon; clear hcon h
  have hR : L.take (min L.length most.toNat) = L.take most.toNat := by rw [List.take_eq_take_iff]; omega
  have HR := Lib.hid hR; clear hR
  generalize L.take most.toNat = R at *
  unfold LTuple.val at *
  unfold LTuple.cells at hB
  have hun : (w.alloc (.cells x.cells.toArray 26)) = (w.alloc (.cells #[.string x.kind, .string x.id, .string x.rel, .string x.user.kind, .string x.user.id, .string x.user.rel] 26)) := rfl
  rw [hun] at HC
  clear hun
  go_enter Tryz.func9, Tryz.ntmps9
  go_wp2_with fail
  refine HC.out.mono ?_
  rintro e w1 ⟨v, rfl, ho, hb1⟩
  have hB1 := below_past hB hb1
  obtain ⟨a, c, rfl, hac, _⟩ := ho.form
  have hcut : ∀ m, m ≤ L.length → OwnL w1 (w.alloc (.cells #[.string x.kind, .string x.id, .string x.rel, .string x.user.kind, .string x.user.id, .string x.user.rel] 26)).heap.size 49 6 LTuple.cells (.slice a m c) (L.take m) := by
    intro m hm
    cases a with
    | none =>
      rcases ho.2 with ⟨h1, h2⟩ | ⟨g, cap, cur, h1, _⟩
      · have hL : L = [] := List.eq_nil_of_length_eq_zero h2
        subst hL
        simp at hm
        subst hm
        exact ho
      · cases h1
    | some ad =>
      rcases ho.2 with ⟨h1, h2⟩ | ⟨g, cap, cur, h1, _⟩
      · cases h1
      · cases h1
        exact ho.cut LTuple.len hm
  have hcl : ∀ m, m ≤ L.length → _ := fun m hm => clone_tuples (hcut m hm) (by simp; omega)
  have HCL := Lib.hid hcl
  have HO := Lib.hid ho
  clear hcl ho hcut HC hb1
  have hl2 : (L.length : Int) ≤ 1000000000000 := by omega
  have hmn : (min (L.length : Int) (max most 0)).toNat = min L.length most.toNat := by omega
  go_wp2_with (go_at_call 28; refine (HCL.out _ (by omega)).mono ?_; rintro e w2 ⟨v, rfl, ho2, hb2⟩; have HO2 := Lib.hid ho2; clear ho2)
  go_ret
  have ho2 := HO2.out
  rw [HR.out] at ho2
  exact ⟨_, rfl, ho2.rebase hB1.size, hB1.trans (hb2.mono hB1.size)⟩
end Go.Proofs.YtnfkjodiielidaaGreat

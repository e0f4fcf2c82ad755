/- The comparisons that the sorts of tuples and of users are given. -/
import Derived.Test.YtnfkjodiielidaaGreatDoorWname
import Derived.Test.YtnfkjodiielidaaGreatDoorOwn
namespace Go.Proofs.YtnfkjodiielidaaGreatDoor
set_option linter.unusedVariables false
set_option linter.unusedSimpArgs false
open Go.RowKit

def cmpT (x y : LTuple) : Int := if tLess x y then -1 else if x = y then 0 else 1
def cmpU (x y : LUser) : Int := if uLess x y then -1 else if x = y then 0 else 1

theorem tuple_eql_yes (a b c d e f : ByteArray) (w : World) : (binOp .eql 61 (.agg #[.string a, .string b, .string c, .string d, .string e, .string f]) (.agg #[.string a, .string b, .string c, .string d, .string e, .string f])).run Tryz.prog w = .ok (.bool true) w := by
  go_simp
theorem tuple_eql_no {x y : LTuple} (h : x ≠ y) (w : World) : (binOp .eql 61 x.val y.val).run Tryz.prog w = .ok (.bool false) w := by
  obtain ⟨a, b, c, ⟨d, e, f⟩⟩ := x
  obtain ⟨a', b', c', ⟨d', e', f'⟩⟩ := y
  unfold LTuple.val
  go_simp
  intro h1 h2 h3 h4 h5 h6
  exact h (by rw [bytes_toList_inj h1, bytes_toList_inj h2, bytes_toList_inj h3, bytes_toList_inj h4, bytes_toList_inj h5, bytes_toList_inj h6])
theorem user_eql_no {x y : LUser} (h : x ≠ y) (w : World) : (binOp .eql 25 x.val y.val).run Tryz.prog w = .ok (.bool false) w := by
  obtain ⟨a, b, c⟩ := x
  obtain ⟨a', b', c'⟩ := y
  unfold LUser.val
  go_simp
  intro h1 h2 h3
  exact h (by rw [bytes_toList_inj h1, bytes_toList_inj h2, bytes_toList_inj h3])
theorem user_eql_yes (x : LUser) (w : World) : (binOp .eql 25 x.val x.val).run Tryz.prog w = .ok (.bool true) w := by
  unfold LUser.val
  go_simp

set_option maxRecDepth 100000 in
set_option maxHeartbeats 1000000 in
theorem which1 (x y : LTuple) (w : World) : Calls Tryz.prog 117 #[x.val, y.val] w fun e w' => e = .returned (.int .i64 (cmpT x y)) ∧ Grw w w' := by
  have hG0 : Grw w ((w.alloc (.cells x.cells.toArray 61)).alloc (.cells y.cells.toArray 61)) := ((Grw.refl w).alloc _).alloc _
  have HT := Lib.hid (tuple_Less x y)
  cases hl : tLess x y with
  | true =>
    have hc : cmpT x y = -1 := by simp [cmpT, hl]
    rw [hc]
    rw [hl] at HT
    clear hc hl
    unfold LTuple.val LTuple.cells at *
    go_enter Tryz.func117, Tryz.ntmps117
    go_wp2_with (go_at_call 118; refine (HT.out _).mono ?_; rintro e w' ⟨rfl, hg⟩)
    go_ret
    exact ⟨rfl, hG0.trans (by assumption)⟩
  | false =>
    rw [hl] at HT
    by_cases he : x = y
    · subst he
      have hc : cmpT x x = 0 := by simp [cmpT, hl]
      rw [hc]
      clear hc hl
      unfold LTuple.val LTuple.cells at *
      go_enter Tryz.func117, Tryz.ntmps117
      go_wp2_with (go_at_call 118; refine (HT.out _).mono ?_; rintro e w' ⟨rfl, hg⟩; obtain ⟨hc, hf⟩ := bcell hg.below)
      go_ret
      exact ⟨rfl, hG0.trans (by assumption)⟩
    · have hc : cmpT x y = 1 := by simp [cmpT, hl, he]
      have hn := fun W => tuple_eql_no he W
      rw [hc]
      clear hc hl he
      unfold LTuple.val LTuple.cells at *
      go_enter Tryz.func117, Tryz.ntmps117
      go_wp2_with (go_at_call 118; refine (HT.out _).mono ?_; rintro e w' ⟨rfl, hg⟩; obtain ⟨hc, hf⟩ := bcell hg.below)
      go_ret
      exact ⟨rfl, hG0.trans (by assumption)⟩

theorem less3 (a b c a' b' c' : ByteArray) {W : World} {B B' : Nat} {T T' : TypeId} (h : W.heap[B]? = some (.cells #[.string a, .string b, .string c] T)) (h' : W.heap[B']? = some (.cells #[.string a', .string b', .string c'] T')) :
    Calls Tryz.prog 63 #[.slice (some ⟨B, 0, none⟩) 3 3, .slice (some ⟨B', 0, none⟩) 3 3] W fun e w' => e = .returned (.bool (ltL [a, b, c] [a', b', c'])) ∧ W = w' :=
  key_Less [a, b, c] [a', b', c'] _ _ W (repS_of_block (A := fun _ => True) (ss := [a, b, c]) (T := T) (fr := (0, 0)) h trivial (by simp)) (repS_of_block (A := fun _ => True) (ss := [a', b', c']) (T := T') (fr := (0, 0)) h' trivial (by simp))
theorem heap_alloc2 {w : World} {o o' : Obj} {n : Nat} (h : n = w.heap.size) : ((w.alloc o).alloc o').heap[n]? = some o := (Below.heap_alloc _ _ _ (by simp; omega)).trans (heap_alloc_at h)

set_option maxRecDepth 100000 in
set_option maxHeartbeats 2000000 in
theorem people1 (x y : LUser) (w : World) : Calls Tryz.prog 73 #[x.val, y.val] w fun e w' => e = .returned (.int .i64 (cmpU x y)) ∧ Grw w w' := by
  have hG0 : Grw w ((((w.alloc (.cells x.cells.toArray 25)).alloc (.cells y.cells.toArray 25)).alloc (.cells x.cells.toArray 9)).alloc (.cells y.cells.toArray 9)).drew := (((((Grw.refl w).alloc _).alloc _).alloc _).alloc _).drew
  have hG1 : Grw w ((((w.alloc (.cells x.cells.toArray 25)).alloc (.cells y.cells.toArray 25)).alloc (.cells y.cells.toArray 9)).alloc (.cells x.cells.toArray 9)).drew := (((((Grw.refl w).alloc _).alloc _).alloc _).alloc _).drew
  have hL : uLess x y = ltL [x.kind, x.id, x.rel] [y.kind, y.id, y.rel] := rfl
  have hne : x ≠ y → ∀ W, _ := fun h W => user_eql_no h W
  have hyes := fun W => user_eql_yes x W
  unfold cmpU
  by_cases he : x = y
  · subst he
    rw [lin_uLess.irrefl] at hL ⊢
    simp only [Bool.false_eq_true, if_false, if_true]
    have HL := Lib.hid hL
    clear hne hL
    unfold LUser.val LUser.cells at *
    go_enter Tryz.func73, Tryz.ntmps73
    go_wp2
    go_region_held3 (fun W => W.cell? ⟨w.heap.size, 0, none⟩ = some (.string x.kind) ∧ W.cell? ⟨w.heap.size, 1, none⟩ = some (.string x.id) ∧ W.cell? ⟨w.heap.size, 2, none⟩ = some (.string x.rel) ∧ W.cell? ⟨w.heap.size + 1, 0, none⟩ = some (.string x.kind) ∧ W.cell? ⟨w.heap.size + 1, 1, none⟩ = some (.string x.id) ∧ W.cell? ⟨w.heap.size + 1, 2, none⟩ = some (.string x.rel)) (go_keep) (fail)
    all_goals
      go_wp2_with (go_at_call 63; refine (less3 x.kind x.id x.rel x.kind x.id x.rel (by first | (refine heap_alloc_at ?_; simp; done) | (refine heap_alloc2 ?_; simp; done)) (by first | (refine heap_alloc_at ?_; simp; done) | (refine heap_alloc2 ?_; simp; done))).mono ?_; rintro e w' ⟨rfl, rfl⟩; rw [← HL.out])
      go_ret
      first | exact ⟨rfl, hG0⟩ | exact ⟨rfl, hG1⟩
  · have hn := hne he
    cases hl : uLess x y
    all_goals
      rw [hl] at hL
      simp only [Bool.false_eq_true, if_false, if_true, he]
      have HL := Lib.hid hL
      clear hne hyes hL hl
      unfold LUser.val LUser.cells at *
      go_enter Tryz.func73, Tryz.ntmps73
      go_wp2
      go_region_held3 (fun W => W.cell? ⟨w.heap.size, 0, none⟩ = some (.string x.kind) ∧ W.cell? ⟨w.heap.size, 1, none⟩ = some (.string x.id) ∧ W.cell? ⟨w.heap.size, 2, none⟩ = some (.string x.rel) ∧ W.cell? ⟨w.heap.size + 1, 0, none⟩ = some (.string y.kind) ∧ W.cell? ⟨w.heap.size + 1, 1, none⟩ = some (.string y.id) ∧ W.cell? ⟨w.heap.size + 1, 2, none⟩ = some (.string y.rel)) (go_keep) (fail)
      all_goals
        go_wp2_with (go_at_call 63; refine (less3 x.kind x.id x.rel y.kind y.id y.rel (by first | (refine heap_alloc_at ?_; simp; done) | (refine heap_alloc2 ?_; simp; done)) (by first | (refine heap_alloc_at ?_; simp; done) | (refine heap_alloc2 ?_; simp; done))).mono ?_; rintro e w' ⟨rfl, rfl⟩; rw [← HL.out])
        go_ret
        first | exact ⟨rfl, hG0⟩ | exact ⟨rfl, hG1⟩
end Go.Proofs.YtnfkjodiielidaaGreatDoor

/- Tuples: their parts, the order, which may be. -/
import Derived.Test.YtnfkjodiielidaaGreatDoorWkey
import Derived.Deep.RegionHeld3
import Derived.Deep.QuietTactic
import Derived.BigQuiet
namespace Go.Proofs.YtnfkjodiielidaaGreatDoor
set_option linter.unusedVariables false
set_option linter.unusedSimpArgs false
open Go.RowKit

/-- What is behind the blocks that there were. -/
def Past (w : World) (b : Nat) : Prop := w.heap.size ≤ b

theorem repS_of_block {w : World} {b : Nat} {A : Nat → Prop} {ss : List ByteArray} {T : TypeId} {fr : Nat × Nat} (h : w.heap[b]? = some (.cells (ss.map Value.string).toArray T fr)) (hA : A b) (hl : ss.length ≤ 140737488355328) :
    RepD A w (.slice 1 (ss.map fun s => [.str s])) (.slice (some ⟨b, 0, none⟩) ss.length ss.length) := by
  cases ss with
  | nil => exact .nil 1 _ _
  | cons s ss =>
    have := RepD.cons (A := A) (w := w) 1 ((s :: ss).map fun s => [D.str s]) b 0 (s :: ss).length (fun k _ => .string ((s :: ss).getD k ⟨#[]⟩)) (by simp) hA (Array.getElem?_eq_some_iff.1 h).1 (by simpa using hl) (by simp)
      (fun k j hk hj => by
        have hk' : k < (s :: ss).length := by simpa using hk
        obtain rfl : j = 0 := by omega
        simp only [World.cell?, h]
        simp only [Nat.zero_add, Nat.mul_one, Nat.add_zero]
        rw [← Array.getElem?_toList]
        simp only [← List.map_cons, List.getElem?_map, List.getElem?_eq_getElem hk', List.getD_eq_getElem?_getD]
        rfl)
      (fun k j hk hj => by
        have hk' : k < (s :: ss).length := by simpa using hk
        obtain rfl : j = 0 := by omega
        simp only [D.nth]
        rw [show (((s :: ss).map fun s => [D.str s]).getD k []) = [D.str (s :: ss)[k]] by simp only [List.getD_eq_getElem?_getD, List.getElem?_map, List.getElem?_eq_getElem hk']; rfl]
        rw [show (s :: ss).getD k ⟨#[]⟩ = (s :: ss)[k] by simp [List.getD_eq_getElem?_getD, List.getElem?_eq_getElem hk']]
        exact .str _)
    simpa using this

set_option maxHeartbeats 400000 in
theorem tuple_parts (a b c d e f : ByteArray) (w : World) : Calls Tryz.prog 163 #[.agg #[.string a, .string b, .string c, .string d, .string e, .string f]] w fun r w' =>
    ∃ v, r = .returned v ∧ RepD (Past w) w' (.slice 1 ([a, b, c, d, e, f].map fun s => [.str s])) v ∧ Grw w w' := by
  go_enter Tryz.func163, Tryz.ntmps163
  go_wp2
  go_ret
  refine ⟨_, rfl, ?_, ((Grw.refl w).alloc _).alloc _⟩
  exact repS_of_block (ss := [a, b, c, d, e, f]) (T := 9) (fr := (0, 0)) (heap_alloc_at (by simp)) (by simp [Past]) (by simp)

set_option maxHeartbeats 400000 in
theorem tuple_Less_no (t : LTuple) (w : World) : Calls Tryz.prog 118 #[t.val, t.val] w fun e w' =>
    e = .returned (.bool false) ∧ Grw w w' := by
  unfold LTuple.val
  go_enter Tryz.func118, Tryz.ntmps118
  go_wp2
  go_quiet (fail)
  go_wp2
  go_ret
  exact ⟨rfl, (((Grw.refl w).alloc _).alloc _).drewN _⟩

theorem tuple_neq {x y : LTuple} (h : x ≠ y) (w : World) : (binOp .neq 61 x.val y.val).run Tryz.prog w = .ok (.bool true) w := by
  obtain ⟨a, b, c, ⟨d, e, f⟩⟩ := x
  obtain ⟨a', b', c', ⟨d', e', f'⟩⟩ := y
  unfold LTuple.val
  go_simp
  intro h1 h2 h3 h4 h5 h6
  exact h (by rw [bytes_toList_inj h1, bytes_toList_inj h2, bytes_toList_inj h3, bytes_toList_inj h4, bytes_toList_inj h5, bytes_toList_inj h6])

set_option maxHeartbeats 1000000 in
theorem tuple_Less_yes (x y : LTuple) (h : x ≠ y) (w : World) : Calls Tryz.prog 118 #[x.val, y.val] w fun e w' =>
    e = .returned (.bool (tLess x y)) ∧ Grw w w' := by
  have hne := fun W => tuple_neq h W
  have HL : RowKit.Hid (tLess x y = ltL [x.kind, x.id, x.rel, x.user.kind, x.user.id, x.user.rel] [y.kind, y.id, y.rel, y.user.kind, y.user.id, y.user.rel]) := rfl
  clear h
  unfold LTuple.val at *
  generalize tLess x y = L at *
  go_enter Tryz.func118, Tryz.ntmps118
  go_wp2
  go_region_held3 (fun W => W.cell? ⟨w.heap.size, 0, none⟩ = some (.string x.kind) ∧ W.cell? ⟨w.heap.size, 1, none⟩ = some (.string x.id) ∧ W.cell? ⟨w.heap.size, 2, none⟩ = some (.string x.rel) ∧ W.cell? ⟨w.heap.size, 3, none⟩ = some (.string x.user.kind) ∧ W.cell? ⟨w.heap.size, 4, none⟩ = some (.string x.user.id) ∧ W.cell? ⟨w.heap.size, 5, none⟩ = some (.string x.user.rel) ∧
      W.cell? ⟨w.heap.size + 1, 0, none⟩ = some (.string y.kind) ∧ W.cell? ⟨w.heap.size + 1, 1, none⟩ = some (.string y.id) ∧ W.cell? ⟨w.heap.size + 1, 2, none⟩ = some (.string y.rel) ∧ W.cell? ⟨w.heap.size + 1, 3, none⟩ = some (.string y.user.kind) ∧ W.cell? ⟨w.heap.size + 1, 4, none⟩ = some (.string y.user.id) ∧ W.cell? ⟨w.heap.size + 1, 5, none⟩ = some (.string y.user.rel)) (go_keep)
    (first | (go_at_call 163; refine (tuple_parts _ _ _ _ _ _ _).mono ?_; rintro e w' ⟨v, rfl, hr, hg⟩; have hb := hg.below; have hz : w.heap.size + 2 ≤ w'.heap.size := (by have := hb.size; (try simp at this); omega); have hc0 := fun o => hb.cell (p := ⟨w.heap.size, o, none⟩) (by simp <;> omega); have hc1 := fun o => hb.cell (p := ⟨w.heap.size + 1, o, none⟩) (by simp <;> omega)) | (go_at_call 63; refine (key_Less _ _ _ _ _ (RepD.old (by assumption) (by assumption)) (by assumption)).mono ?_; rintro e w' ⟨rfl, rfl⟩))
  go_wp2
  go_ret
  exact ⟨ret_bool HL.out.symm, Grw.trans (Grw.trans ((((Grw.refl w).alloc _).alloc _).drew) (by assumption)) (by assumption)⟩

theorem tuple_Less (x y : LTuple) (w : World) : Calls Tryz.prog 118 #[x.val, y.val] w fun e w' => e = .returned (.bool (tLess x y)) ∧ Grw w w' := by
  by_cases h : x = y
  · subst h; rw [lin_tLess.irrefl]; exact tuple_Less_no x w
  · exact tuple_Less_yes x y h w

/-! ### Names -/
def letterB (c : Int) : Bool := decide (97 ≤ c) && decide (c ≤ 122)
def digitB (c : Int) : Bool := decide (48 ≤ c) && decide (c ≤ 57)
def nameB (i c : Int) : Bool := letterB c || (decide (0 < i) && (digitB c || c == 95))
def idB (c : Int) : Bool := letterB c || digitB c || c == 95 || c == 45 || c == 46
set_option maxHeartbeats 400000 in
theorem tuple_letter (c : Int) (w : World) : Calls Tryz.prog 153 #[.int .i32 c] w fun e w' => e = .returned (.bool (letterB c)) ∧ w = w' := by
  by_cases h1 : 97 ≤ c <;> by_cases h2 : c ≤ 122
  all_goals
    have e : letterB c = (decide (97 ≤ c) && decide (c ≤ 122)) := rfl
    simp only [h1, h2, decide_true, decide_false, Bool.and_true, Bool.and_false] at e
    rw [e]; clear e
    go_enter Tryz.func153, Tryz.ntmps153
    go_wp2
    go_ret
    exact ⟨rfl, rfl⟩
set_option maxHeartbeats 400000 in
theorem tuple_digit (c : Int) (w : World) : Calls Tryz.prog 154 #[.int .i32 c] w fun e w' => e = .returned (.bool (digitB c)) ∧ w = w' := by
  by_cases h1 : 48 ≤ c <;> by_cases h2 : c ≤ 57
  all_goals
    have e : digitB c = (decide (48 ≤ c) && decide (c ≤ 57)) := rfl
    simp only [h1, h2, decide_true, decide_false, Bool.and_true, Bool.and_false] at e
    rw [e]; clear e
    go_enter Tryz.func154, Tryz.ntmps154
    go_wp2
    go_ret
    exact ⟨rfl, rfl⟩
set_option maxHeartbeats 1000000 in
theorem tuple_Name1 (i c : Int) (w : World) : Calls Tryz.prog 152 #[.int .i64 i, .int .i32 c] w fun e w' => e = .returned (.bool (nameB i c)) ∧ w = w' := by
  have hl := tuple_letter c; have hd := tuple_digit c
  generalize hL : letterB c = L at hl
  generalize hD : digitB c = D at hd
  cases h1 : decide (0 < i) <;> cases h2 : c == 95 <;> cases L <;> cases D
  all_goals
    have e : nameB i c = (letterB c || (decide (0 < i) && (digitB c || c == 95))) := rfl
    simp only [hL, hD, h1, h2, Bool.or_true, Bool.or_false, Bool.and_true, Bool.and_false, Bool.true_and, Bool.false_and, Bool.true_or, Bool.false_or] at e
    rw [e]; clear e hL hD
    go_enter Tryz.func152, Tryz.ntmps152
    go_wp2_with (first | (go_at_call 153; refine (hl _).mono ?_; rintro e w' ⟨rfl, rfl⟩) | (go_at_call 154; refine (hd _).mono ?_; rintro e w' ⟨rfl, rfl⟩))
    go_ret
    exact ⟨rfl, rfl⟩
set_option maxHeartbeats 1000000 in
theorem tuple_ID1 (i c : Int) (w : World) : Calls Tryz.prog 155 #[.int .i64 i, .int .i32 c] w fun e w' => e = .returned (.bool (idB c)) ∧ w = w' := by
  have hl := tuple_letter c; have hd := tuple_digit c
  generalize hL : letterB c = L at hl
  generalize hD : digitB c = D at hd
  cases h1 : c == 95 <;> cases h2 : c == 45 <;> cases h3 : c == 46 <;> cases L <;> cases D
  all_goals
    have e : idB c = (letterB c || digitB c || c == 95 || c == 45 || c == 46) := rfl
    simp only [hL, hD, h1, h2, h3, Bool.or_true, Bool.or_false, Bool.and_true, Bool.and_false, Bool.true_and, Bool.false_and, Bool.true_or, Bool.false_or] at e
    rw [e]; clear e hL hD
    go_enter Tryz.func155, Tryz.ntmps155
    go_wp2_with (first | (go_at_call 153; refine (hl _).mono ?_; rintro e w' ⟨rfl, rfl⟩) | (go_at_call 154; refine (hd _).mono ?_; rintro e w' ⟨rfl, rfl⟩))
    go_ret
    exact ⟨rfl, rfl⟩
end Go.Proofs.YtnfkjodiielidaaGreatDoor

/- The document's layer 11: what comes ahead, of tuples. -/
import Derived.Test.YtnfkjodiielidaaGreatWref11
import Derived.Test.YtnfkjodiielidaaGreatWref01
namespace Go.Proofs.YtnfkjodiielidaaGreat
set_option linter.unusedVariables false
set_option linter.unusedSimpArgs false
open Go.RowKit

/-- Two tuples in their boxes; lists of texts that are held besides. -/
structure PSt (w W : World) (x y : LTuple) (A : List (Value × List ByteArray)) : Prop where
  below : Below w.heap.size w W
  boxX : W.heap[w.heap.size]? = some (.cells #[.string x.kind, .string x.id, .string x.rel, .string x.user.kind, .string x.user.id, .string x.user.rel] 49)
  boxY : W.heap[w.heap.size + 1]? = some (.cells #[.string y.kind, .string y.id, .string y.rel, .string y.user.kind, .string y.user.id, .string y.user.rel] 49)
  reps : ∀ p, p ∈ A → RepD (fun _ => True) W (.slice 1 (p.2.map fun s => [.str s])) p.1
theorem box_cells6 {W : World} {b : Nat} {t : LTuple} {e : TypeId} (h : W.heap[b]? = some (.cells #[.string t.kind, .string t.id, .string t.rel, .string t.user.kind, .string t.user.id, .string t.user.rel] e)) :
    W.cell? ⟨b, 0, none⟩ = some (.string t.kind) ∧ W.cell? ⟨b, 1, none⟩ = some (.string t.id) ∧ W.cell? ⟨b, 2, none⟩ = some (.string t.rel) ∧ W.cell? ⟨b, 3, none⟩ = some (.string t.user.kind) ∧ W.cell? ⟨b, 4, none⟩ = some (.string t.user.id) ∧ W.cell? ⟨b, 5, none⟩ = some (.string t.user.rel) := by
  refine ⟨?_, ?_, ?_, ?_, ?_, ?_⟩ <;> simp [World.cell?, h]
section
variable {w W W' : World} {x y : LTuple} {A : List (Value × List ByteArray)}
theorem PSt.next (h : PSt w W x y A) (hb : Below W.heap.size W W') : PSt w W' x y A :=
  ⟨below_past h.below hb, (hb.block _ (Array.getElem?_eq_some_iff.1 h.boxX).1).trans h.boxX, (hb.block _ (Array.getElem?_eq_some_iff.1 h.boxY).1).trans h.boxY, fun p hp => (h.reps p hp).old hb⟩
theorem PSt.cells (h : PSt w W x y A) :
    (W.cell? ⟨w.heap.size, 0, none⟩ = some (.string x.kind) ∧ W.cell? ⟨w.heap.size, 1, none⟩ = some (.string x.id) ∧ W.cell? ⟨w.heap.size, 2, none⟩ = some (.string x.rel) ∧ W.cell? ⟨w.heap.size, 3, none⟩ = some (.string x.user.kind) ∧ W.cell? ⟨w.heap.size, 4, none⟩ = some (.string x.user.id) ∧ W.cell? ⟨w.heap.size, 5, none⟩ = some (.string x.user.rel)) ∧
    (W.cell? ⟨w.heap.size + 1, 0, none⟩ = some (.string y.kind) ∧ W.cell? ⟨w.heap.size + 1, 1, none⟩ = some (.string y.id) ∧ W.cell? ⟨w.heap.size + 1, 2, none⟩ = some (.string y.rel) ∧ W.cell? ⟨w.heap.size + 1, 3, none⟩ = some (.string y.user.kind) ∧ W.cell? ⟨w.heap.size + 1, 4, none⟩ = some (.string y.user.id) ∧ W.cell? ⟨w.heap.size + 1, 5, none⟩ = some (.string y.user.rel)) :=
  ⟨box_cells6 h.boxX, box_cells6 h.boxY⟩
theorem p_Parts (h : PSt w W x y A) (a b c d e f : ByteArray) : Calls Tryz.prog 23 #[.agg #[.string a, .string b, .string c, .string d, .string e, .string f]] W fun r W' => ∃ v, r = .returned v ∧ PSt w W' x y ((v, [a, b, c, d, e, f]) :: A) := by
  refine (ref_parts ⟨a, b, c, ⟨d, e, f⟩⟩ W).mono ?_
  rintro r W' ⟨v, rfl, hr, hb⟩
  refine ⟨v, rfl, below_past h.below hb, (h.next hb).boxX, (h.next hb).boxY, fun p hp => ?_⟩
  rcases List.mem_cons.1 hp with rfl | hp
  · exact hr.mono fun _ _ _ => trivial
  · exact (h.reps p hp).old hb
theorem p_Less (h : PSt w W x y A) {u v : Value} (hu : (u, x.strs) ∈ A) (hv : (v, y.strs) ∈ A) (hx : ∀ s, s ∈ x.strs → s.size ≤ 300) : Calls Tryz.prog 38 #[u, v] W fun r W' => r = .returned (.bool (tLess x y)) ∧ PSt w W' x y A := by
  refine (ref_LessL (h.reps _ hu) (h.reps _ hv) hx).mono ?_
  rintro r W' ⟨rfl, hb⟩
  exact ⟨rfl, h.next hb⟩
end
set_option maxRecDepth 100000 in
set_option maxHeartbeats 4000000 in
theorem ref_LessT (x y : LTuple) (hx : shortT x = true) (w : World) : Calls Tryz.prog 44 #[x.val, y.val] w fun e w' => e = .returned (.bool (tLess x y)) ∧ Below w.heap.size w w' := by
  have hs : ∀ s, s ∈ x.strs → s.size ≤ 300 := fun s hm => by unfold shortT at hx; simpa using (List.all_eq_true.1 hx) s hm
  have HS := Lib.hid hs; clear hs hx
  have hp0 : PSt w (((w.alloc (.cells #[.string x.kind, .string x.id, .string x.rel, .string x.user.kind, .string x.user.id, .string x.user.rel] 49)).alloc (.cells #[.string y.kind, .string y.id, .string y.rel, .string y.user.kind, .string y.user.id, .string y.user.rel] 49))) x y [] :=
    ⟨((Below.refl _ w).alloc (Nat.le_refl _) _).alloc (by simp) _, (Below.heap_alloc _ _ _ (by simp)).trans (heap_alloc_at rfl), heap_alloc_at (by simp), fun p hp => by cases hp⟩
  have ST := Lib.hid (hp0.next (Below.refl _ _).drew); clear hp0
  unfold LTuple.val
  go_enter Tryz.func44, Tryz.ntmps44
  go_wp2_with fail
  go_region_held3 (fun W => (W.cell? ⟨w.heap.size, 0, none⟩ = some (.string x.kind) ∧ W.cell? ⟨w.heap.size, 1, none⟩ = some (.string x.id) ∧ W.cell? ⟨w.heap.size, 2, none⟩ = some (.string x.rel) ∧ W.cell? ⟨w.heap.size, 3, none⟩ = some (.string x.user.kind) ∧ W.cell? ⟨w.heap.size, 4, none⟩ = some (.string x.user.id) ∧ W.cell? ⟨w.heap.size, 5, none⟩ = some (.string x.user.rel)) ∧
    (W.cell? ⟨w.heap.size + 1, 0, none⟩ = some (.string y.kind) ∧ W.cell? ⟨w.heap.size + 1, 1, none⟩ = some (.string y.id) ∧ W.cell? ⟨w.heap.size + 1, 2, none⟩ = some (.string y.rel) ∧ W.cell? ⟨w.heap.size + 1, 3, none⟩ = some (.string y.user.kind) ∧ W.cell? ⟨w.heap.size + 1, 4, none⟩ = some (.string y.user.id) ∧ W.cell? ⟨w.heap.size + 1, 5, none⟩ = some (.string y.user.rel)))
    (exact ST.out.cells)
    (first
      | (go_at_call 23; refine (p_Parts ST.out _ _ _ _ _ _).mono ?_; rintro r W' ⟨v, rfl, hx⟩; clear ST; have ST := Lib.hid hx; clear hx)
      | (go_at_call 38; refine (p_Less ST.out (by simp [LTuple.strs]) (by simp [LTuple.strs]) HS.out).mono ?_; rintro r W' ⟨rfl, hx⟩; clear ST; have ST := Lib.hid hx; clear hx))
  all_goals
    go_wp2
    go_ret
    exact ⟨rfl, ST.out.below⟩
end Go.Proofs.YtnfkjodiielidaaGreat

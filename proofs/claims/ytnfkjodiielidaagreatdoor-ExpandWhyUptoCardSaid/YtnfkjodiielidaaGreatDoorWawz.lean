/- Layer 15's example is as it says. -/
import Derived.Test.YtnfkjodiielidaaGreatDoorPawz
import Derived.Test.YtnfkjodiielidaaGreatDoorWwhy
import Derived.Test.YtnfkjodiielidaaGreatDoorWflat
import Derived.Test.YtnfkjodiielidaaGreatDoorWref13
import Derived.Test.YtnfkjodiielidaaGreatDoorWref15a
import Derived.Deep.RegionHeld3
namespace Go.Proofs.YtnfkjodiielidaaGreatDoor
set_option linter.unusedVariables false
set_option linter.unusedSimpArgs false
open Go.RowKit

def ruleCells (p : LRule × SlV) : List Value := [.string p.1.rel, .string p.1.expr.op, .string p.1.expr.name, .string p.1.expr.of, .slice p.2.a p.2.n p.2.c]
def kindCells (p : LKind × SlV) : List Value := [.string p.1.name, .slice p.2.a p.2.n p.2.c]
theorem ruleCells_len (p : LRule × SlV) : (ruleCells p).length = 5 := rfl
theorem kindCells_len (p : LKind × SlV) : (kindCells p).length = 2 := rfl
theorem rules_block {w : World} {b : Nat} {T : TypeId} {A : Nat → Prop} (xs : List (LRule × SlV)) (hh : w.heap[b]? = some (.cells (xs.flatMap ruleCells).toArray T (0, 0))) (hA : A b) (hl : xs.length ≤ 1000) (hx : ∀ p, p ∈ xs → RepD A w (.slice 4 (p.1.expr.parts.map LExpr.d)) (.slice p.2.a p.2.n p.2.c)) :
    RepD A w (.slice 5 ((xs.map (·.1)).map LRule.d)) (.slice (some ⟨b, 0, none⟩) xs.length xs.length) := by
  have ho := own_of_block (base := b) (g := b) (n := xs.length) ruleCells_len (w := w) (e := T) xs (Nat.le_refl _) rfl (by simp only [maxLen]; omega) hh
  have := ho.reps (A := A) ruleCells_len (fun p => p.1.d) (fun p hp j hj => by
    unfold LRule.d
    rw [LExpr.d_eq]
    match j, hj with
    | 0, _ => exact .str _
    | 1, _ => exact .str _
    | 2, _ => exact .str _
    | 3, _ => exact .str _
    | 4, _ => exact hx p hp) (fun b' _ hb' => by have : b = b' := Option.some.inj hb'; subst this; exact hA) (by omega)
  rwa [List.map_map]
theorem kinds_block {w : World} {b : Nat} {T : TypeId} {A : Nat → Prop} (xs : List (LKind × SlV)) (hh : w.heap[b]? = some (.cells (xs.flatMap kindCells).toArray T (0, 0))) (hA : A b) (hl : xs.length ≤ 1000) (hx : ∀ p, p ∈ xs → RepD A w (.slice 5 (p.1.rules.map LRule.d)) (.slice p.2.a p.2.n p.2.c)) :
    RepD A w (.slice 2 ((xs.map (·.1)).map LKind.d)) (.slice (some ⟨b, 0, none⟩) xs.length xs.length) := by
  have ho := own_of_block (base := b) (g := b) (n := xs.length) kindCells_len (w := w) (e := T) xs (Nat.le_refl _) rfl (by simp only [maxLen]; omega) hh
  have := ho.reps (A := A) kindCells_len (fun p => p.1.d) (fun p hp j hj => by
    unfold LKind.d
    match j, hj with
    | 0, _ => exact .str _
    | 1, _ => exact hx p hp) (fun b' _ hb' => by have : b = b' := Option.some.inj hb'; subst this; exact hA) (by omega)
  rwa [List.map_map]
/-- Where the example stands: three users' boxes; the tree's box; the way. -/
structure AzSt (w W : World) (tb : Nat) (us ps : SlV) (wb wo vb vo : Nat) (wc vc : Nat) : Prop where
  below : Below w.heap.size w W
  tree : W.cell? ⟨tb, 0, none⟩ = some (.string T15.op) ∧ W.cell? ⟨tb, 1, none⟩ = some (.slice us.a us.n us.c) ∧ W.cell? ⟨tb, 2, none⟩ = some (.slice ps.a ps.n ps.c)
  rus : RepD (fun _ => True) W (.slice 3 (T15.users.map LUser.d)) (.slice us.a us.n us.c)
  rps : RepD (fun _ => True) W (.slice 3 (T15.parts.map LTree.d)) (.slice ps.a ps.n ps.c)
  bg : W.heap[w.heap.size + 4]? = some (.cells uG.cells.toArray 25)
  bx : W.heap[w.heap.size + 5]? = some (.cells uX.cells.toArray 25)
  by' : W.heap[w.heap.size + 6]? = some (.cells uY.cells.toArray 25)
  way : W.cell? ⟨wb, wo, none⟩ = some (.slice (some ⟨vb, vo, none⟩) 1 vc) ∧ W.cell? ⟨vb, vo, none⟩ = some (.int .i64 0)
theorem AzSt.next {w W W' : World} {tb : Nat} {us ps : SlV} {wb wo vb vo wc vc : Nat} (h : AzSt w W tb us ps wb wo vb vo wc vc) (hb : Below W.heap.size W W') : AzSt w W' tb us ps wb wo vb vo wc vc := by
  have l1 : tb < W.heap.size := World.block_lt_of_cell? _ _ h.tree.1
  have l2 : wb < W.heap.size := World.block_lt_of_cell? _ _ h.way.1
  have l3 : vb < W.heap.size := World.block_lt_of_cell? _ _ h.way.2
  have c1 : ∀ j, W'.cell? ⟨tb, j, none⟩ = W.cell? ⟨tb, j, none⟩ := fun j => hb.cell (p := ⟨tb, j, none⟩) l1
  refine ⟨below_past h.below hb, ?_, h.rus.old hb, h.rps.old hb, (hb.block _ (Array.getElem?_eq_some_iff.1 h.bg).1).trans h.bg, (hb.block _ (Array.getElem?_eq_some_iff.1 h.bx).1).trans h.bx, (hb.block _ (Array.getElem?_eq_some_iff.1 h.by').1).trans h.by', (hb.cell (p := ⟨wb, wo, none⟩) l2).trans h.way.1, (hb.cell (p := ⟨vb, vo, none⟩) l3).trans h.way.2⟩
  simp only [c1]
  exact h.tree
theorem ucells {W : World} {b : Nat} {u : LUser} {T : TypeId} (h : W.heap[b]? = some (.cells u.cells.toArray T)) : W.cell? ⟨b, 0, none⟩ = some (.string u.kind) ∧ W.cell? ⟨b, 1, none⟩ = some (.string u.id) ∧ W.cell? ⟨b, 2, none⟩ = some (.string u.rel) := by
  refine ⟨?_, ?_, ?_⟩ <;> simp [World.cell?, h, LUser.cells]
section
variable {w W : World} {tb : Nat} {us ps : SlV} {wb wo vb vo wc vc : Nat}
theorem AzSt.cells (h : AzSt w W tb us ps wb wo vb vo wc vc) : (W.cell? ⟨tb, 0, none⟩ = some (.string T15.op) ∧ W.cell? ⟨tb, 1, none⟩ = some (.slice us.a us.n us.c) ∧ W.cell? ⟨tb, 2, none⟩ = some (.slice ps.a ps.n ps.c)) ∧
    (W.cell? ⟨w.heap.size + 1 + 1 + 1 + 1, 0, none⟩ = some (.string uG.kind) ∧ W.cell? ⟨w.heap.size + 1 + 1 + 1 + 1, 1, none⟩ = some (.string uG.id) ∧ W.cell? ⟨w.heap.size + 1 + 1 + 1 + 1, 2, none⟩ = some (.string uG.rel)) ∧
    (W.cell? ⟨w.heap.size + 1 + 1 + 1 + 1 + 1, 0, none⟩ = some (.string uX.kind) ∧ W.cell? ⟨w.heap.size + 1 + 1 + 1 + 1 + 1, 1, none⟩ = some (.string uX.id) ∧ W.cell? ⟨w.heap.size + 1 + 1 + 1 + 1 + 1, 2, none⟩ = some (.string uX.rel)) ∧
    (W.cell? ⟨w.heap.size + 1 + 1 + 1 + 1 + 1 + 1, 0, none⟩ = some (.string uY.kind) ∧ W.cell? ⟨w.heap.size + 1 + 1 + 1 + 1 + 1 + 1, 1, none⟩ = some (.string uY.id) ∧ W.cell? ⟨w.heap.size + 1 + 1 + 1 + 1 + 1 + 1, 2, none⟩ = some (.string uY.rel)) ∧
    W.cell? ⟨wb, wo, none⟩ = some (.slice (some ⟨vb, vo, none⟩) 1 vc) ∧ W.cell? ⟨vb, vo, none⟩ = some (.int .i64 0) := ⟨h.tree, ucells h.bg, ucells h.bx, ucells h.by', h.way⟩
theorem az_Flat (h : AzSt w W tb us ps wb wo vb vo wc vc) : Calls Tryz.prog 28 #[.agg #[.string T15.op, .slice us.a us.n us.c, .slice ps.a ps.n ps.c]] W fun e W' => ∃ fv, e = .returned fv ∧ RepD (fun _ => True) W' (.slice 3 ([uG, uX, uY].map LUser.d)) fv ∧ AzSt w W' tb us ps wb wo vb vo wc vc ∧ Below W.heap.size W W' := by
  refine (expand_Flat h.rus h.rps (by rw [z_named]; simp)).mono ?_
  rintro e W' ⟨v, rfl, ho, hb⟩
  rw [z_flat] at ho
  exact ⟨v, rfl, ho.users (fun _ _ => trivial) (by simp), h.next hb, hb⟩
theorem lit_rep (W : World) : RepD (fun _ => True) (W.alloc (.cells #[.string uG.kind, .string uG.id, .string uG.rel, .string uX.kind, .string uX.id, .string uX.rel, .string uY.kind, .string uY.id, .string uY.rel] 25)) (.slice 3 ([uG, uX, uY].map LUser.d)) (.slice (some ⟨W.heap.size, 0, none⟩) 3 3) :=
  (own_of_block (base := 0) LUser.len [uG, uX, uY] (Nat.zero_le _) rfl (by decide) (heap_alloc_at rfl)).users (fun _ _ => trivial) (by decide)
theorem az_Size (h : AzSt w W tb us ps wb wo vb vo wc vc) : Calls Tryz.prog 25 #[.agg #[.string T15.op, .slice us.a us.n us.c, .slice ps.a ps.n ps.c]] W fun e W' => e = .returned (.int .i64 2) ∧ AzSt w W' tb us ps wb wo vb vo wc vc := by
  refine (expand_Size h.rus h.rps (by rw [z_size]; omega)).mono ?_
  rintro e W' ⟨rfl, hb⟩
  exact ⟨by rw [z_size]; rfl, h.next hb⟩
theorem az_Same (h : AzSt w W tb us ps wb wo vb vo wc vc) {u v : Value} (hu : RepD (fun _ => True) W (.slice 3 ([uG, uX, uY].map LUser.d)) u) (hv : RepD (fun _ => True) W (.slice 3 ([uG, uX, uY].map LUser.d)) v) :
    Calls Tryz.prog 29 #[u, v] W fun e W' => e = .returned (.bool true) ∧ AzSt w W' tb us ps wb wo vb vo wc vc := by
  refine (ref_SameUsers hu hv).mono ?_
  rintro e W' ⟨rfl, hb⟩
  exact ⟨by simp, h.next hb⟩
end
theorem alloc8 (w : World) (o0 o1 o2 o3 o4 o5 o6 o7 : Obj) :
    ((((((((w.alloc o0).alloc o1).alloc o2).alloc o3).alloc o4).alloc o5).alloc o6).alloc o7).heap[w.heap.size]? = some o0 ∧
    ((((((((w.alloc o0).alloc o1).alloc o2).alloc o3).alloc o4).alloc o5).alloc o6).alloc o7).heap[w.heap.size + 1]? = some o1 ∧
    ((((((((w.alloc o0).alloc o1).alloc o2).alloc o3).alloc o4).alloc o5).alloc o6).alloc o7).heap[w.heap.size + 1 + 1]? = some o2 ∧
    ((((((((w.alloc o0).alloc o1).alloc o2).alloc o3).alloc o4).alloc o5).alloc o6).alloc o7).heap[w.heap.size + 1 + 1 + 1]? = some o3 ∧
    ((((((((w.alloc o0).alloc o1).alloc o2).alloc o3).alloc o4).alloc o5).alloc o6).alloc o7).heap[w.heap.size + 1 + 1 + 1 + 1]? = some o4 ∧
    ((((((((w.alloc o0).alloc o1).alloc o2).alloc o3).alloc o4).alloc o5).alloc o6).alloc o7).heap[w.heap.size + 1 + 1 + 1 + 1 + 1]? = some o5 ∧
    ((((((((w.alloc o0).alloc o1).alloc o2).alloc o3).alloc o4).alloc o5).alloc o6).alloc o7).heap[w.heap.size + 1 + 1 + 1 + 1 + 1 + 1]? = some o6 ∧
    ((((((((w.alloc o0).alloc o1).alloc o2).alloc o3).alloc o4).alloc o5).alloc o6).alloc o7).heap[w.heap.size + 1 + 1 + 1 + 1 + 1 + 1 + 1]? = some o7 ∧ Below w.heap.size w ((((((((w.alloc o0).alloc o1).alloc o2).alloc o3).alloc o4).alloc o5).alloc o6).alloc o7) := by
  refine ⟨?_, ?_, ?_, ?_, ?_, ?_, ?_, ?_, ?_⟩
  · exact (Below.heap_alloc _ _ _ (by simp <;> omega)).trans ((Below.heap_alloc _ _ _ (by simp <;> omega)).trans ((Below.heap_alloc _ _ _ (by simp <;> omega)).trans ((Below.heap_alloc _ _ _ (by simp <;> omega)).trans ((Below.heap_alloc _ _ _ (by simp <;> omega)).trans ((Below.heap_alloc _ _ _ (by simp <;> omega)).trans ((Below.heap_alloc _ _ _ (by simp <;> omega)).trans (heap_alloc_at (by simp))))))))
  · exact (Below.heap_alloc _ _ _ (by simp <;> omega)).trans ((Below.heap_alloc _ _ _ (by simp <;> omega)).trans ((Below.heap_alloc _ _ _ (by simp <;> omega)).trans ((Below.heap_alloc _ _ _ (by simp <;> omega)).trans ((Below.heap_alloc _ _ _ (by simp <;> omega)).trans ((Below.heap_alloc _ _ _ (by simp <;> omega)).trans (heap_alloc_at (by simp)))))))
  · exact (Below.heap_alloc _ _ _ (by simp <;> omega)).trans ((Below.heap_alloc _ _ _ (by simp <;> omega)).trans ((Below.heap_alloc _ _ _ (by simp <;> omega)).trans ((Below.heap_alloc _ _ _ (by simp <;> omega)).trans ((Below.heap_alloc _ _ _ (by simp <;> omega)).trans (heap_alloc_at (by simp))))))
  · exact (Below.heap_alloc _ _ _ (by simp <;> omega)).trans ((Below.heap_alloc _ _ _ (by simp <;> omega)).trans ((Below.heap_alloc _ _ _ (by simp <;> omega)).trans ((Below.heap_alloc _ _ _ (by simp <;> omega)).trans (heap_alloc_at (by simp)))))
  · exact (Below.heap_alloc _ _ _ (by simp <;> omega)).trans ((Below.heap_alloc _ _ _ (by simp <;> omega)).trans ((Below.heap_alloc _ _ _ (by simp <;> omega)).trans (heap_alloc_at (by simp))))
  · exact (Below.heap_alloc _ _ _ (by simp <;> omega)).trans ((Below.heap_alloc _ _ _ (by simp <;> omega)).trans (heap_alloc_at (by simp)))
  · exact (Below.heap_alloc _ _ _ (by simp <;> omega)).trans (heap_alloc_at (by simp))
  · exact heap_alloc_at (by simp)
  · exact (((((((((Below.refl _ w).alloc (Nat.le_refl _) _).alloc (by simp <;> omega) _).alloc (by simp <;> omega) _).alloc (by simp <;> omega) _).alloc (by simp <;> omega) _).alloc (by simp <;> omega) _).alloc (by simp <;> omega) _).alloc (by simp <;> omega) _)
set_option maxRecDepth 100000 in
set_option maxHeartbeats 8000000 in
theorem awake15 (w : World) (hw : WordsAt w) : Calls Tryz.prog 16 #[] w fun e w' => e = .returned (.bool true) ∧ Below w.heap.size w w' := by
  have HWD := Lib.hid hw
  clear hw
  go_enter Tryz.func16, Tryz.ntmps16
  go_wp2_with fail
  obtain ⟨b0, b1, b2, b3, b4, b5, b6, b7, hB⟩ := alloc8 w (.cells #[.string sThis, .string zNo, .string zNo, .slice none 0 0] 42) (.cells #[.string zViewer, .string sThis, .string zNo, .string zNo, .slice none 0 0] 75) (.cells #[.string zMember, .string sThis, .string zNo, .string zNo, .slice none 0 0] 75)
    (.cells #[.string zDoc, .slice (some ⟨w.heap.size + 1, 0, none⟩) 1 1, .string zGroup, .slice (some ⟨w.heap.size + 1 + 1, 0, none⟩) 1 1] 78) (.cells uG.cells.toArray 25) (.cells uX.cells.toArray 25) (.cells uY.cells.toArray 25) (.cells (F15.flatMap LTuple.cells).toArray 61)
  have hn := facts_New (A := fun _ => True) F15 (.slice (some ⟨w.heap.size + 1 + 1 + 1 + 1 + 1 + 1 + 1, 0, none⟩) 3 3) _ ((own_of_block (base := 0) LTuple.len F15 (Nat.zero_le _) rfl (by decide) b7).tuples (fun _ _ => trivial) (by decide))
  rw [z_new] at hn
  refine hn.mono ?_
  clear hn
  rintro r w1 ⟨fb, mb, rfl, _, _, hF, _, hb1⟩
  have hr1 := rules_block (A := fun _ => True) [(⟨zViewer, eThis⟩, ⟨none, 0, 0⟩)] b1 trivial (by simp) (fun p hp => by
    obtain rfl : p = (⟨zViewer, eThis⟩, ⟨none, 0, 0⟩) := by simpa using hp
    exact .nil _ _ _)
  have hr2 := rules_block (A := fun _ => True) [(⟨zMember, eThis⟩, ⟨none, 0, 0⟩)] b2 trivial (by simp) (fun p hp => by
    obtain rfl : p = (⟨zMember, eThis⟩, ⟨none, 0, 0⟩) := by simpa using hp
    exact .nil _ _ _)
  have hk := kinds_block (A := fun _ => True) [(⟨zDoc, [⟨zViewer, eThis⟩]⟩, ⟨some ⟨w.heap.size + 1, 0, none⟩, 1, 1⟩), (⟨zGroup, [⟨zMember, eThis⟩]⟩, ⟨some ⟨w.heap.size + 1 + 1, 0, none⟩, 1, 1⟩)] b3 trivial (by simp) (fun p hp => by
    rcases List.mem_cons.1 hp with rfl | hp
    · exact hr1
    · obtain rfl : p = (⟨zGroup, [⟨zMember, eThis⟩]⟩, ⟨some ⟨w.heap.size + 1 + 1, 0, none⟩, 1, 1⟩) := by simpa using hp
      exact hr2)
  have hk1 := hk.old hb1
  have hBW := below_past hB hb1
  have c4 := (hb1.block _ (Array.getElem?_eq_some_iff.1 b4).1).trans b4
  have c5 := (hb1.block _ (Array.getElem?_eq_some_iff.1 b5).1).trans b5
  have c6 := (hb1.block _ (Array.getElem?_eq_some_iff.1 b6).1).trans b6
  have htr := expand_Tree hk1 z_slim hF (by decide) (HWD.out.old hBW) oDoc 5 100 (by omega)
  rw [show codeT ([(⟨zDoc, [⟨zViewer, eThis⟩]⟩, ⟨some ⟨w.heap.size + 1, 0, none⟩, 1, 1⟩), (⟨zGroup, [⟨zMember, eThis⟩]⟩, ⟨some ⟨w.heap.size + 1 + 1, 0, none⟩, 1, 1⟩)].map (Prod.fst : LKind × SlV → LKind)) F15 oDoc 5 100 = 0 from z_codeT, show treeT ([(⟨zDoc, [⟨zViewer, eThis⟩]⟩, ⟨some ⟨w.heap.size + 1, 0, none⟩, 1, 1⟩), (⟨zGroup, [⟨zMember, eThis⟩]⟩, ⟨some ⟨w.heap.size + 1 + 1, 0, none⟩, 1, 1⟩)].map (Prod.fst : LKind × SlV → LKind)) F15 oDoc 5 100 = T15 from z_tree] at htr
  have HBW := Lib.hid hBW; have HTR := Lib.hid htr; have C4 := Lib.hid c4; have C5 := Lib.hid c5; have C6 := Lib.hid c6
  clear b0 b1 b2 b3 b4 b5 b6 b7 hB hr1 hr2 hk hk1 hBW htr hF hb1 c4 c5 c6
  go_wp2_with fail
  refine HTR.out.mono ?_
  clear HTR
  rintro r w2 ⟨row, rfl, hb2, hT⟩
  have hB2 := below_past HBW.out hb2
  have d4 := (hb2.block _ (Array.getElem?_eq_some_iff.1 C4.out).1).trans C4.out
  have d5 := (hb2.block _ (Array.getElem?_eq_some_iff.1 C5.out).1).trans C5.out
  have d6 := (hb2.block _ (Array.getElem?_eq_some_iff.1 C6.out).1).trans C6.out
  have hba : Below w2.heap.size w2 (w2.alloc (.cells #[.string row.op, .slice row.us.a row.us.n row.us.c, .slice row.ps.a row.ps.n row.ps.c] 32)) := (Below.refl _ w2).alloc (Nat.le_refl _) _
  have hbt : (w2.alloc (.cells #[.string row.op, .slice row.us.a row.us.n row.us.c, .slice row.ps.a row.ps.n row.ps.c] 32)).heap[w2.heap.size]? = some (.cells #[.string row.op, .slice row.us.a row.us.n row.us.c, .slice row.ps.a row.ps.n row.ps.c] 32) := heap_alloc_at rfl
  have hus := (hT.us.mono (A' := fun _ => True) fun _ _ _ => trivial).old hba
  have hps := (hT.ps.mono (A' := fun _ => True) fun _ _ _ => trivial).old hba
  have hop := hT.op
  have hwhy := expand_Why (t := T15) hus hps (by rw [z_size]; omega) uY
  rw [z_ways] at hwhy
  obtain ⟨q0, q1, q2⟩ := ucells d6
  have hlt6 := (Array.getElem?_eq_some_iff.1 d6).1
  have hne6 : w.heap.size + 1 + 1 + 1 + 1 + 1 + 1 ≠ w2.heap.size := by omega
  have HB2 := Lib.hid hB2; have D4 := Lib.hid d4; have D5 := Lib.hid d5; have D6 := Lib.hid d6; have HBA := Lib.hid hba; have HBT := Lib.hid hbt; have HUS := Lib.hid hus; have HPS := Lib.hid hps; have HWHY := Lib.hid hwhy
  clear hB2 d4 d5 d6 hba hbt hus hps hwhy hT hb2 HBW C4 C5 C6
  unfold TRow.val
  rw [hop]
  rw [hop] at HBA HBT HUS HPS HWHY
  go_wp2_with fail
  refine HWHY.out.mono ?_
  clear HWHY
  rintro r w3 ⟨wv, rfl, hR, hb3⟩
  obtain ⟨a1, wc, us1, rfl, _, _, hk1⟩ := hR.rows
  obtain ⟨wb, wo, rfl, _, hj1⟩ := hk1 0 (by simp)
  obtain ⟨e1, r1⟩ := hj1 0 (by omega)
  have r1' : RepD (fun _ => True) w3 (.slice 1 (([0] : List Nat).map natD)) (us1 0 0) := r1
  obtain ⟨a2, vc, us2, hv2, _, _, hk2⟩ := r1'.rows
  obtain ⟨vb, vo, rfl, _, hj2⟩ := hk2 0 (by simp)
  obtain ⟨e2, r2⟩ := hj2 0 (by omega)
  have r2' : us2 0 0 = .int .i64 0 := r2.int_eq
  rw [hv2] at e1
  rw [r2'] at e2
  simp only [Nat.zero_mul, Nat.add_zero, List.length_cons, List.length_nil, Nat.zero_add] at e1 e2 ⊢
  have hb23 : Below w2.heap.size w2 w3 := below_past HBA.out hb3
  have hbt3 := (hb3.block _ (Array.getElem?_eq_some_iff.1 HBT.out).1).trans HBT.out
  have ST0 : AzSt w w3 w2.heap.size row.us row.ps wb wo vb vo wc vc := ⟨below_past HB2.out hb23, by refine ⟨?_, ?_, ?_⟩ <;> simp [World.cell?, hbt3], HUS.out.old hb3, HPS.out.old hb3,
    (hb23.block _ (Array.getElem?_eq_some_iff.1 D4.out).1).trans D4.out, (hb23.block _ (Array.getElem?_eq_some_iff.1 D5.out).1).trans D5.out, (hb23.block _ (Array.getElem?_eq_some_iff.1 D6.out).1).trans D6.out, e1, e2⟩
  have ST := Lib.hid (ST0.next (Below.refl _ w3).drew); have ST3 := Lib.hid ST0
  clear ST0 hR hk1 hj1 r1 r1' hk2 hj2 r2 r2' hv2 hb23 hbt3 hb3 HB2 D4 D5 D6 HBA HBT HUS HPS e1 e2 q0 q1 q2 hlt6 hne6 HWD
  go_wp2_with fail
  go_region_held3 (fun W => (W.cell? ⟨w2.heap.size, 0, none⟩ = some (.string T15.op) ∧ W.cell? ⟨w2.heap.size, 1, none⟩ = some (.slice row.us.a row.us.n row.us.c) ∧ W.cell? ⟨w2.heap.size, 2, none⟩ = some (.slice row.ps.a row.ps.n row.ps.c)) ∧
    (W.cell? ⟨w.heap.size + 1 + 1 + 1 + 1, 0, none⟩ = some (.string uG.kind) ∧ W.cell? ⟨w.heap.size + 1 + 1 + 1 + 1, 1, none⟩ = some (.string uG.id) ∧ W.cell? ⟨w.heap.size + 1 + 1 + 1 + 1, 2, none⟩ = some (.string uG.rel)) ∧
    (W.cell? ⟨w.heap.size + 1 + 1 + 1 + 1 + 1, 0, none⟩ = some (.string uX.kind) ∧ W.cell? ⟨w.heap.size + 1 + 1 + 1 + 1 + 1, 1, none⟩ = some (.string uX.id) ∧ W.cell? ⟨w.heap.size + 1 + 1 + 1 + 1 + 1, 2, none⟩ = some (.string uX.rel)) ∧
    (W.cell? ⟨w.heap.size + 1 + 1 + 1 + 1 + 1 + 1, 0, none⟩ = some (.string uY.kind) ∧ W.cell? ⟨w.heap.size + 1 + 1 + 1 + 1 + 1 + 1, 1, none⟩ = some (.string uY.id) ∧ W.cell? ⟨w.heap.size + 1 + 1 + 1 + 1 + 1 + 1, 2, none⟩ = some (.string uY.rel)) ∧
    W.cell? ⟨wb, wo, none⟩ = some (.slice (some ⟨vb, vo, none⟩) 1 vc) ∧ W.cell? ⟨vb, vo, none⟩ = some (.int .i64 0))
    (first | exact ST.out.cells | exact (ST.out.next ((Below.refl _ _).alloc (Nat.le_refl _) _)).cells | exact (ST3.out.next ((Below.refl _ _).alloc (Nat.le_refl _) _).drew).cells)
    (first
      | (go_at_call 28; with_reducible refine (az_Flat ST.out).mono ?_; rintro r W' ⟨fv, rfl, hfv, hx, hbx⟩; have HFV := Lib.hid hfv; clear ST hfv hbx; have ST := Lib.hid hx; clear hx)
      | (go_at_call 28; with_reducible refine (az_Flat (ST3.out.next ((Below.refl _ _).alloc (Nat.le_refl _) _).drew)).mono ?_; rintro r W' ⟨fv, rfl, hfv, hx, hbx⟩; have HFV := Lib.hid hfv; have HLIT := Lib.hid (((lit_rep w3).old (Below.refl _ _).drew).old hbx); clear ST hfv hbx; have ST := Lib.hid hx; clear hx)
      | (go_at_call 25; with_reducible refine (az_Size ST.out).mono ?_; rintro r W' ⟨rfl, hx⟩; clear ST; have ST := Lib.hid hx; clear hx)
      | (go_at_call 29; with_reducible refine (az_Same ST.out HFV.out HLIT.out).mono ?_; rintro r W' ⟨rfl, hx⟩; clear ST; have ST := Lib.hid hx; clear hx)
      | (go_at_call 29; with_reducible refine (az_Same (ST.out.next ((Below.refl _ _).alloc (Nat.le_refl _) _)) (HFV.out.old ((Below.refl _ _).alloc (Nat.le_refl _) _)) (lit_rep _)).mono ?_; rintro r W' ⟨rfl, hx⟩; clear ST; have ST := Lib.hid hx; clear hx))
  all_goals
    go_wp2
    go_ret
    exact ⟨rfl, ST.out.below⟩
end Go.Proofs.YtnfkjodiielidaaGreatDoor

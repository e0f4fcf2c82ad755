/- The chapter's example is as it says. -/
import Derived.Test.YtnfkjodiielidaaGreatPawake
import Derived.Deep.RegionHeld3
namespace Go.Proofs.YtnfkjodiielidaaGreat
set_option linter.unusedVariables false
set_option linter.unusedSimpArgs false
open Go.RowKit

/-- Where the example stands: its two tuples in their boxes, the set. -/
structure AwSt (w W : World) (fb mb : Nat) (S : List LTuple) : Prop where
  facts : FactsAt W fb mb S
  below : Below w.heap.size w W
  boxA : W.heap[w.heap.size]? = some (.cells tA.cells.toArray 49)
  boxB : W.heap[w.heap.size + 1]? = some (.cells tB.cells.toArray 49)
  past : w.heap.size + 2 ≤ mb
theorem AwSt.next {w W W' : World} {fb mb : Nat} {S : List LTuple} (h : AwSt w W fb mb S) (hb : Below W.heap.size W W') : AwSt w W' fb mb S :=
  ⟨h.facts.below hb, below_past h.below hb, (hb.block _ (Array.getElem?_eq_some_iff.1 h.boxA).1).trans h.boxA, (hb.block _ (Array.getElem?_eq_some_iff.1 h.boxB).1).trans h.boxB, h.past⟩
theorem AwSt.put {w W W' : World} {fb mb : Nat} {S S' : List LTuple} (h : AwSt w W fb mb S) (hb : Fr (fun k => k = mb) W W') (hf : FactsAt W' fb mb S') : AwSt w W' fb mb S' :=
  ⟨hf, h.below.trans (hb.below h.below.size (fun k hk e => by have := h.past; omega)), (hb.block _ (Array.getElem?_eq_some_iff.1 h.boxA).1 (by have := h.past; omega)).trans h.boxA, (hb.block _ (Array.getElem?_eq_some_iff.1 h.boxB).1 (by have := h.past; omega)).trans h.boxB, h.past⟩
theorem box_cells {W : World} {b : Nat} {t : LTuple} {e : TypeId} (h : W.heap[b]? = some (.cells t.cells.toArray e)) :
    W.cell? ⟨b, 0, none⟩ = some (.string t.kind) ∧ W.cell? ⟨b, 1, none⟩ = some (.string t.id) ∧ W.cell? ⟨b, 2, none⟩ = some (.string t.rel) ∧ W.cell? ⟨b, 3, none⟩ = some (.string t.user.kind) ∧ W.cell? ⟨b, 4, none⟩ = some (.string t.user.id) ∧ W.cell? ⟨b, 5, none⟩ = some (.string t.user.rel) := by
  refine ⟨?_, ?_, ?_, ?_, ?_, ?_⟩ <;> simp [World.cell?, h, LTuple.cells]

/-- .. and the users that were asked for first. -/
structure AwX (w W : World) (fb mb g base c0 : Nat) (S : List LTuple) : Prop where
  st : AwSt w W fb mb S
  us : OwnL W base 24 3 LUser.cells (.slice (some ⟨g, 0, none⟩) 2 c0) [tA.user, tB.user]
  ne : g ≠ mb
theorem AwX.next {w W W' : World} {fb mb g base c0 : Nat} {S : List LTuple} (h : AwX w W fb mb g base c0 S) (hb : Below W.heap.size W W') : AwX w W' fb mb g base c0 S := ⟨h.st.next hb, h.us.below hb, h.ne⟩
theorem AwX.put {w W W' : World} {fb mb g base c0 : Nat} {S S' : List LTuple} (h : AwX w W fb mb g base c0 S) (hb : Fr (fun k => k = mb) W W') (hf : FactsAt W' fb mb S') : AwX w W' fb mb g base c0 S' :=
  ⟨h.st.put hb hf, h.us.fr hb (fun k hk e => h.ne (by have : g = k := Option.some.inj hk; omega)), h.ne⟩
theorem AwX.cells {w W : World} {fb mb g base c0 : Nat} {S : List LTuple} (h : AwX w W fb mb g base c0 S) :
    (W.cell? ⟨w.heap.size, 0, none⟩ = some (.string tA.kind) ∧ W.cell? ⟨w.heap.size, 1, none⟩ = some (.string tA.id) ∧ W.cell? ⟨w.heap.size, 2, none⟩ = some (.string tA.rel) ∧ W.cell? ⟨w.heap.size, 3, none⟩ = some (.string tA.user.kind) ∧ W.cell? ⟨w.heap.size, 4, none⟩ = some (.string tA.user.id) ∧ W.cell? ⟨w.heap.size, 5, none⟩ = some (.string tA.user.rel)) ∧
    (W.cell? ⟨w.heap.size + 1, 3, none⟩ = some (.string tB.user.kind) ∧ W.cell? ⟨w.heap.size + 1, 4, none⟩ = some (.string tB.user.id) ∧ W.cell? ⟨w.heap.size + 1, 5, none⟩ = some (.string tB.user.rel)) ∧
    W.cell? ⟨g, 0, none⟩ = some (.string tA.user.kind) ∧ W.cell? ⟨g, 1, none⟩ = some (.string tA.user.id) ∧ W.cell? ⟨g, 2, none⟩ = some (.string tA.user.rel) ∧ W.cell? ⟨g, 3, none⟩ = some (.string tB.user.kind) ∧ W.cell? ⟨g, 4, none⟩ = some (.string tB.user.id) ∧ W.cell? ⟨g, 5, none⟩ = some (.string tB.user.rel) := by
  have hb := box_cells h.st.boxB
  refine ⟨box_cells h.st.boxA, ⟨hb.2.2.2.1, hb.2.2.2.2.1, hb.2.2.2.2.2⟩, ?_, ?_, ?_, ?_, ?_, ?_⟩
  · exact h.us.cellAt LUser.len (i := 0) (by simp) (j := 0) (by omega) rfl
  · exact h.us.cellAt LUser.len (i := 0) (by simp) (j := 1) (by omega) rfl
  · exact h.us.cellAt LUser.len (i := 0) (by simp) (j := 2) (by omega) rfl
  · exact h.us.cellAt LUser.len (i := 1) (by simp) (j := 0) (by omega) rfl
  · exact h.us.cellAt LUser.len (i := 1) (by simp) (j := 1) (by omega) rfl
  · exact h.us.cellAt LUser.len (i := 1) (by simp) (j := 2) (by omega) rfl

section
variable {w W : World} {fb mb g base c0 : Nat}
theorem aw_All (h : AwX w W fb mb g base c0 [tB, tA]) : Calls Tryz.prog 20 #[.pointer (some ⟨fb, 0, none⟩)] W fun e W' => ∃ a c, e = .returned (.slice a 2 c) ∧ AwX w W' fb mb g base c0 [tB, tA] := by
  refine (facts_All h.st.facts (by simp)).mono ?_
  rintro e W' ⟨v, rfl, ho, hb⟩
  rw [aw_all] at ho
  obtain ⟨a, c, rfl, _⟩ := ho.form
  exact ⟨a, c, rfl, h.next hb⟩
theorem aw_Has (h : AwX w W fb mb g base c0 [tB, tA]) : Calls Tryz.prog 21 #[.pointer (some ⟨fb, 0, none⟩), .agg #[.string tA.kind, .string tA.id, .string tA.rel, .string tA.user.kind, .string tA.user.id, .string tA.user.rel]] W fun e W' => e = .returned (.bool true) ∧ AwX w W' fb mb g base c0 [tB, tA] := by
  refine (facts_Has h.st.facts _ _ _ _ _ _).mono ?_
  rintro e W' ⟨rfl, hb⟩
  exact ⟨congrArg (fun b => Ending.returned (.bool b)) aw_has, h.next hb⟩
theorem aw_Find (h : AwX w W fb mb g base c0 [tB, tA]) : Calls Tryz.prog 9 #[.pointer (some ⟨fb, 0, none⟩), .agg #[.string xDoc, .string xNo, .string xNo, .string xNo, .string xNo, .string xNo], .int .i64 9] W fun e W' => ∃ a c, e = .returned (.slice a 2 c) ∧ AwX w W' fb mb g base c0 [tB, tA] := by
  refine (facts_Find h.st.facts (by simp) fDoc 9).mono ?_
  rintro e W' ⟨v, rfl, ho, hb⟩
  rw [aw_find] at ho
  obtain ⟨a, c, rfl, _⟩ := ho.form
  exact ⟨a, c, rfl, h.next hb⟩
theorem aw_Objects (h : AwX w W fb mb g base c0 [tB, tA]) : Calls Tryz.prog 15 #[.pointer (some ⟨fb, 0, none⟩), .string xUser] W fun e W' => ∃ a c, e = .returned (.slice a 2 c) ∧ AwX w W' fb mb g base c0 [tB, tA] := by
  refine (facts_Objects h.st.facts (by simp) xUser).mono ?_
  rintro e W' ⟨v, rfl, ho, hb⟩
  obtain ⟨a, c, rfl, _⟩ := ho.form
  exact ⟨a, c, by rw [aw_objects], h.next hb⟩
theorem aw_People (h : AwX w W fb mb g base c0 [tB, tA]) : Calls Tryz.prog 17 #[.pointer (some ⟨fb, 0, none⟩)] W fun e W' => ∃ a c, e = .returned (.slice a 2 c) ∧ AwX w W' fb mb g base c0 [tB, tA] := by
  refine (facts_People h.st.facts (by simp)).mono ?_
  rintro e W' ⟨v, rfl, ho, hb⟩
  obtain ⟨a, c, rfl, _⟩ := ho.form
  exact ⟨a, c, by rw [aw_people], h.next hb⟩
theorem aw_Put1 (h : AwX w W fb mb g base c0 [tB, tA]) : Calls Tryz.prog 19 #[.pointer (some ⟨fb, 0, none⟩), .agg #[.string tA.kind, .string tA.id, .string tA.rel, .string tA.user.kind, .string tA.user.id, .string tA.user.rel]] W fun e W' => e = .returned (.bool false) ∧ AwX w W' fb mb g base c0 [tB, tA] := by
  refine (facts_Put h.st.facts tA).mono ?_
  rintro e W' ⟨rfl, hf, hb⟩
  rw [aw_putS] at hf
  exact ⟨congrArg (fun b => Ending.returned (.bool b)) aw_put, h.put hb hf⟩
theorem aw_Drop (h : AwX w W fb mb g base c0 [tB, tA]) : Calls Tryz.prog 22 #[.pointer (some ⟨fb, 0, none⟩), .agg #[.string tA.kind, .string tA.id, .string tA.rel, .string tA.user.kind, .string tA.user.id, .string tA.user.rel]] W fun e W' => e = .returned (.bool true) ∧ AwX w W' fb mb g base c0 [tB] := by
  refine (facts_Drop h.st.facts tA).mono ?_
  rintro e W' ⟨rfl, hf, hb⟩
  rw [aw_drop] at hf
  exact ⟨congrArg (fun b => Ending.returned (.bool b)) aw_has, h.put hb hf⟩
theorem aw_Put2 (h : AwX w W fb mb g base c0 [tB]) : Calls Tryz.prog 19 #[.pointer (some ⟨fb, 0, none⟩), .agg #[.string tA.kind, .string tA.id, .string tA.rel, .string tA.user.kind, .string tA.user.id, .string tA.user.rel]] W fun e W' => e = .returned (.bool true) ∧ AwX w W' fb mb g base c0 (putS [tB] tA) := by
  refine (facts_Put h.st.facts tA).mono ?_
  rintro e W' ⟨rfl, hf, hb⟩
  exact ⟨congrArg (fun b => Ending.returned (.bool b)) aw_put2, h.put hb hf⟩
end

set_option maxRecDepth 100000 in
set_option maxHeartbeats 4000000 in
theorem awake_true (w : World) : Calls Tryz.prog 5 #[] w fun e w' => e = .returned (.bool true) ∧ Below w.heap.size w w' := by
  go_enter Tryz.func5, Tryz.ntmps5
  go_wp2_with fail
  have hB : Below w.heap.size w (((w.alloc (.cells tA.cells.toArray 49)).alloc (.cells tB.cells.toArray 49)).alloc (.cells (tB.cells ++ tA.cells ++ tB.cells ++ tZ.cells).toArray 49)) := (((Below.refl _ w).alloc (Nat.le_refl _) _).alloc (by simp) _).alloc (by simp; omega) _
  have ho := own_of_block (base := w.heap.size) (g := w.heap.size + 1 + 1) (n := 4) LTuple.len (w := ((w.alloc (.cells tA.cells.toArray 49)).alloc (.cells tB.cells.toArray 49)).alloc (.cells (tB.cells ++ tA.cells ++ tB.cells ++ tZ.cells).toArray 49)) (e := 49) [tB, tA, tB, tZ] (by omega) rfl (by simp [maxLen]) (heap_alloc_at (by simp))
  have hnew := facts_New [tB, tA, tB, tZ] _ _ (ho.tuples (A := fun _ => True) (fun _ _ => trivial) (by simp))
  rw [aw_new] at hnew
  refine hnew.mono ?_
  rintro r w1 ⟨fb, mb, rfl, hfb, hmb, hF, _, hb1⟩
  have s1 : AwSt w w1 fb mb [tB, tA] := ⟨hF, below_past hB hb1,
    (hb1.block _ (by simp; omega)).trans ((Below.heap_alloc _ _ _ (by simp; omega)).trans ((Below.heap_alloc _ _ _ (by simp)).trans (heap_alloc_at rfl))),
    (hb1.block _ (by simp)).trans ((Below.heap_alloc _ _ _ (by simp)).trans (heap_alloc_at (by simp))), by simp at hmb; omega⟩
  clear hnew ho hB hF hb1 hfb hmb
  have S1 := Lib.hid s1; clear s1
  go_wp2_with fail
  have hus := facts_Users S1.out.facts (by simp) xDoc xA xViewer
  rw [aw_users] at hus
  refine hus.mono ?_
  rintro r w2 ⟨v, rfl, hO, hb2⟩
  have S2 := Lib.hid (S1.out.next hb2)
  have HO := Lib.hid hO
  clear hus hO hb2 S1
  go_wp2_with fail
  dsimp only [List.append]
  obtain ⟨a0, c0, rfl, _⟩ := HO.out.form
  rcases HO.out.2 with ⟨hn, _⟩ | ⟨g, cap, cur, hn, _, hbk, _⟩
  · cases hn
  cases hn
  have hne : g ≠ mb := by
    rintro rfl
    obtain ⟨es, clock, hh, _⟩ := S2.out.facts.2
    rw [hh] at hbk
    cases hbk
  have ST := Lib.hid (AwX.next ⟨S2.out, HO.out, hne⟩ (Below.refl _ w2).drew)
  clear S2 HO hbk hne
  go_region_held3 (fun W => (W.cell? ⟨w.heap.size, 0, none⟩ = some (.string tA.kind) ∧ W.cell? ⟨w.heap.size, 1, none⟩ = some (.string tA.id) ∧ W.cell? ⟨w.heap.size, 2, none⟩ = some (.string tA.rel) ∧ W.cell? ⟨w.heap.size, 3, none⟩ = some (.string tA.user.kind) ∧ W.cell? ⟨w.heap.size, 4, none⟩ = some (.string tA.user.id) ∧ W.cell? ⟨w.heap.size, 5, none⟩ = some (.string tA.user.rel)) ∧
    (W.cell? ⟨w.heap.size + 1, 3, none⟩ = some (.string tB.user.kind) ∧ W.cell? ⟨w.heap.size + 1, 4, none⟩ = some (.string tB.user.id) ∧ W.cell? ⟨w.heap.size + 1, 5, none⟩ = some (.string tB.user.rel)) ∧
    W.cell? ⟨g, 0, none⟩ = some (.string tA.user.kind) ∧ W.cell? ⟨g, 1, none⟩ = some (.string tA.user.id) ∧ W.cell? ⟨g, 2, none⟩ = some (.string tA.user.rel) ∧ W.cell? ⟨g, 3, none⟩ = some (.string tB.user.kind) ∧ W.cell? ⟨g, 4, none⟩ = some (.string tB.user.id) ∧ W.cell? ⟨g, 5, none⟩ = some (.string tB.user.rel))
    (exact ST.out.cells)
    (first
      | (go_at_call 20; refine (aw_All ST.out).mono ?_; rintro r W' ⟨a, c, rfl, hx⟩; clear ST; have ST := Lib.hid hx; clear hx)
      | (go_at_call 21; refine (aw_Has ST.out).mono ?_; rintro r W' ⟨rfl, hx⟩; clear ST; have ST := Lib.hid hx; clear hx)
      | (go_at_call 9; refine (aw_Find ST.out).mono ?_; rintro r W' ⟨a, c, rfl, hx⟩; clear ST; have ST := Lib.hid hx; clear hx)
      | (go_at_call 15; refine (aw_Objects ST.out).mono ?_; rintro r W' ⟨a, c, rfl, hx⟩; clear ST; have ST := Lib.hid hx; clear hx)
      | (go_at_call 17; refine (aw_People ST.out).mono ?_; rintro r W' ⟨a, c, rfl, hx⟩; clear ST; have ST := Lib.hid hx; clear hx)
      | (go_at_call 19; refine (aw_Put1 ST.out).mono ?_; rintro r W' ⟨rfl, hx⟩; clear ST; have ST := Lib.hid hx; clear hx)
      | (go_at_call 22; refine (aw_Drop ST.out).mono ?_; rintro r W' ⟨rfl, hx⟩; clear ST; have ST := Lib.hid hx; clear hx)
      | (go_at_call 19; refine (aw_Put2 ST.out).mono ?_; rintro r W' ⟨rfl, hx⟩; clear ST; have ST := Lib.hid hx; clear hx))
  all_goals
    go_wp2
    go_ret
    exact ⟨rfl, ST.out.st.below⟩
end Go.Proofs.YtnfkjodiielidaaGreat

/- Where a law of a tree and a user stands. -/
import Derived.Test.YtnfkjodiielidaaGreatDoorWawz
namespace Go.Proofs.YtnfkjodiielidaaGreatDoor
set_option linter.unusedVariables false
set_option linter.unusedSimpArgs false
open Go.RowKit

theorem tcells {W : World} {op : ByteArray} {s1 s2 : SlV} {n : Nat} {T : TypeId} (h : W.heap[n]? = some (.cells #[.string op, .slice s1.a s1.n s1.c, .slice s2.a s2.n s2.c] T)) : W.cell? ⟨n, 0, none⟩ = some (.string op) ∧ W.cell? ⟨n, 1, none⟩ = some (.slice s1.a s1.n s1.c) ∧ W.cell? ⟨n, 2, none⟩ = some (.slice s2.a s2.n s2.c) := by
  refine ⟨?_, ?_, ?_⟩ <;> simp [World.cell?, h]
/-- Where ExpandUsers and ExpandWhy stand. -/
structure TuSt (w W : World) (t : LTree) (u : LUser) (s1 s2 : SlV) : Prop where
  below : Below w.heap.size w W
  words : WordsAt W
  bt : W.heap[w.heap.size]? = some (.cells #[.string t.op, .slice s1.a s1.n s1.c, .slice s2.a s2.n s2.c] 32)
  bu : W.heap[w.heap.size + 1]? = some (.cells #[.string u.kind, .string u.id, .string u.rel] 25)
  r1 : RepD (fun _ => True) W (.slice 3 (t.users.map LUser.d)) (.slice s1.a s1.n s1.c)
  r2 : RepD (fun _ => True) W (.slice 3 (t.parts.map LTree.d)) (.slice s2.a s2.n s2.c)
section
variable {w W W' : World} {t : LTree} {u : LUser} {s1 s2 : SlV}
theorem TuSt.next (h : TuSt w W t u s1 s2) (hb : Below W.heap.size W W') : TuSt w W' t u s1 s2 :=
  ⟨below_past h.below hb, h.words.old hb, (hb.block _ (Array.getElem?_eq_some_iff.1 h.bt).1).trans h.bt, (hb.block _ (Array.getElem?_eq_some_iff.1 h.bu).1).trans h.bu, h.r1.old hb, h.r2.old hb⟩
theorem TuSt.cells (h : TuSt w W t u s1 s2) : (W.cell? ⟨w.heap.size, 0, none⟩ = some (.string t.op) ∧ W.cell? ⟨w.heap.size, 1, none⟩ = some (.slice s1.a s1.n s1.c) ∧ W.cell? ⟨w.heap.size, 2, none⟩ = some (.slice s2.a s2.n s2.c)) ∧
    (W.cell? ⟨w.heap.size + 1, 0, none⟩ = some (.string u.kind) ∧ W.cell? ⟨w.heap.size + 1, 1, none⟩ = some (.string u.id) ∧ W.cell? ⟨w.heap.size + 1, 2, none⟩ = some (.string u.rel)) := ⟨tcells h.bt, ucells (u := u) h.bu⟩
theorem tu_awake (h : TuSt w W t u s1 s2) : Calls Tryz.prog 16 #[] W fun e W' => e = .returned (.bool true) ∧ TuSt w W' t u s1 s2 := by
  refine (awake15 W h.words).mono ?_
  rintro e W' ⟨rfl, hb⟩
  exact ⟨rfl, h.next hb⟩
theorem tu_Few (h : TuSt w W t u s1 s2) (n : Nat) (hn : n ≤ 100) : Calls Tryz.prog 26 #[.agg #[.string t.op, .slice s1.a s1.n s1.c, .slice s2.a s2.n s2.c], .int .i64 n] W fun e W' => e = .returned (.bool (LTree.few n t)) ∧ TuSt w W' t u s1 s2 := by
  refine (ref_Few15 n (by omega) t _ W _ _ h.r1 h.r2).mono ?_
  rintro e W' ⟨rfl, hb⟩
  exact ⟨rfl, h.next hb⟩
theorem tu_Size (h : TuSt w W t u s1 s2) (hn : t.natSize ≤ 1048576) : Calls Tryz.prog 27 #[.agg #[.string t.op, .slice s1.a s1.n s1.c, .slice s2.a s2.n s2.c]] W fun e W' => e = .returned (.int .i64 t.natSize) ∧ TuSt w W' t u s1 s2 := by
  refine (ref_Size15 t (by omega) _ W _ _ h.r1 h.r2).mono ?_
  rintro e W' ⟨rfl, hb⟩
  exact ⟨rfl, h.next hb⟩
end
theorem TuSt.start {w : World} {t : LTree} {u : LUser} {s1 s2 : SlV} (hw : WordsAt w) (h1 : RepD (fun _ => True) w (.slice 3 (t.users.map LUser.d)) (.slice s1.a s1.n s1.c)) (h2 : RepD (fun _ => True) w (.slice 3 (t.parts.map LTree.d)) (.slice s2.a s2.n s2.c)) :
    TuSt w ((w.alloc (.cells #[.string t.op, .slice s1.a s1.n s1.c, .slice s2.a s2.n s2.c] 32)).alloc (.cells #[.string u.kind, .string u.id, .string u.rel] 25)) t u s1 s2 :=
  have hB : Below w.heap.size w ((w.alloc (.cells #[.string t.op, .slice s1.a s1.n s1.c, .slice s2.a s2.n s2.c] 32)).alloc (.cells #[.string u.kind, .string u.id, .string u.rel] 25)) := ((Below.refl _ w).alloc (Nat.le_refl _) _).alloc (by simp) _
  ⟨hB, hw.old hB, heap_alloc2 rfl, heap_alloc_at (by simp), h1.old hB, h2.old hB⟩
end Go.Proofs.YtnfkjodiielidaaGreatDoor

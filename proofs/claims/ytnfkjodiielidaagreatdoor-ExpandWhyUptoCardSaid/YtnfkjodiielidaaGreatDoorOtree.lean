/- A tree that came in, read as plain data. -/
import Derived.Test.YtnfkjodiielidaaGreatDoorBulk
import Derived.Test.YtnfkjodiielidaaGreatDoorPtree
namespace Go.Proofs.YtnfkjodiielidaaGreatDoor
set_option linter.unusedVariables false
set_option linter.unusedSimpArgs false
open Go.RowKit Go.ChangeShapes Go.WideShapes
set_option maxRecDepth 100000

section
variable {H : Type} {enc : TypeId × Value → H} {w : World} {base : Nat} {spare : Nat → Bool} {held : Bool}
theorem struct3_b {P : Program} {t : TypeId} {f0 f1 f2 : Field} {fuel : Nat} {cs : List Value} {x : DataW H × List MemPlace} (ht : P.underlying t = some (.struct #[f0, f1, f2])) (h : DataW.trod enc P w base spare held fuel t cs = some x) :
    ∃ y0 y1 y2 n, fuel = n + 1 ∧ x = (.agg [y0.1, y1.1, y2.1], y0.2 ++ (y1.2 ++ y2.2)) ∧ cs.length = P.cellsOf t ∧ DataW.trod enc P w base spare held n f0.type ((cs.drop f0.offset).take (P.cellsOf f0.type)) = some y0 ∧
      DataW.trod enc P w base spare held n f1.type ((cs.drop f1.offset).take (P.cellsOf f1.type)) = some y1 ∧ DataW.trod enc P w base spare held n f2.type ((cs.drop f2.offset).take (P.cellsOf f2.type)) = some y2 := by
  obtain ⟨xs, n, he, rfl, hl, hlen, hf⟩ := DataW.trod_struct ht h
  match xs, hlen with
  | [y0, y1, y2], _ => exact ⟨y0, y1, y2, n, he, by simp, hl, by simpa using hf 0 f0 rfl, by simpa using hf 1 f1 rfl, by simpa using hf 2 f2 rfl⟩
theorem cells_tree : Tryz.prog.cellsOf 32 = 3 := by kernel_rfl
theorem cells_users : Tryz.prog.cellsOf 29 = 1 := by kernel_rfl
theorem cells_trees : Tryz.prog.cellsOf 30 = 1 := by kernel_rfl
theorem read_users_b {n : Nat} {cs : List Value} {x : DataW H × List MemPlace} (h : DataW.trod enc Tryz.prog w base spare held n 29 cs = some x) (hb : Rows.uptoBulk x.1 ≤ 1048576) :
    ∃ (v : Value) (xs : List LUser), cs = [v] ∧ Slc v ∧ RepD (fun _ => True) w (.slice 3 (xs.map LUser.d)) v ∧ xs.length + 1 ≤ Rows.uptoBulk x.1 := by
  obtain ⟨v, xs, h1, h2, h3, _, h4⟩ := open_rows_b (q := fun _ => 0) (dd := LUser.d) (by omega) Tryz.underlying29 cells_user (fun n' cs x _ hx _ => by
    obtain ⟨u, rfl⟩ := read_user hx
    exact ⟨u, fun j hj => repD_strs3 u j hj, by simp⟩) h hb
  exact ⟨v, xs, h1, h2, h3, h4⟩
theorem read_tree (n : Nat) : ∀ (cs : List Value) (x : DataW H × List MemPlace), DataW.trod enc Tryz.prog w base spare held n 32 cs = some x → Rows.uptoBulk x.1 ≤ 1048576 →
    ∃ t : LTree, (∀ j, j < 3 → ∃ u, cs[j]? = some u ∧ RepD (fun _ => True) w (t.d.getD j (.bool false)) u) ∧ t.natSize ≤ Rows.uptoBulk x.1 := by
  induction n using Nat.strongRecOn with
  | ind n ih =>
  intro cs x h hb
  obtain ⟨y0, y1, y2, m, rfl, rfl, hl, h0, h1, h2⟩ := struct3_b Tryz.underlying32 h
  rw [cells_tree] at hl
  simp only [cells_string, cells_users, cells_trees] at h0 h1 h2
  obtain ⟨s0, e0, _⟩ := DataW.trod_string Tryz.underlying9 h0
  simp only [Rows.uptoBulk, Rows.uptoBulkAll] at hb ⊢
  match cs, hl with
  | [c0, c1, c2], _ =>
    obtain ⟨v1, us, e1, _, r1, _⟩ := read_users_b h1 (by omega)
    obtain ⟨v2, ps, e2, _, r2, hs2, _⟩ := open_rows_b (q := LTree.natSize) (dd := LTree.d) (by omega) Tryz.underlying30 cells_tree (fun n' cs x hn hx hbx => ih n' (by omega) cs x hx hbx) h2 (by omega)
    simp at e0 e1 e2
    subst e0 e1 e2
    refine ⟨.mk s0 us ps, fun j hj => ?_, ?_⟩
    · rw [LTree.d_eq]
      match j, hj with
      | 0, _ => exact ⟨_, rfl, .str _⟩
      | 1, _ => exact ⟨_, rfl, r1⟩
      | 2, _ => exact ⟨_, rfl, r2⟩
    · rw [LTree.natSize_eq]
      simp only [LTree.parts]
      omega
theorem open_tree {r : Reach} {b0 : Nat} {v : Value} {d : DataW H} {p : List MemPlace} (hv : Value.okWide Tryz.prog w r b0 32 v) (h : DataW.Trod enc Tryz.prog w base spare held 32 v d p) (hb : Rows.uptoBulk d ≤ 1048576) :
    ∃ (t : LTree) (us ps : Value), v = .agg #[.string t.op, us, ps] ∧ RepD (fun _ => True) w (.slice 3 (t.users.map LUser.d)) us ∧ RepD (fun _ => True) w (.slice 3 (t.parts.map LTree.d)) ps ∧ t.natSize ≤ 1048576 := by
  obtain ⟨cs, rfl, hcs⟩ := okWide_struct Tryz.underlying32 hv
  obtain ⟨fuel, hf⟩ := h
  obtain ⟨t, ht, hn⟩ := read_tree fuel _ _ hf hb
  have hn2 : t.natSize ≤ Rows.uptoBulk d := hn
  rw [cells_tree] at hcs
  rw [LTree.d_eq] at ht
  obtain ⟨u0, e0, r0⟩ := ht 0 (by omega)
  obtain ⟨u1, e1, r1⟩ := ht 1 (by omega)
  obtain ⟨u2, e2, r2⟩ := ht 2 (by omega)
  refine ⟨t, u1, u2, ?_, r1, r2, by omega⟩
  have r0' := r0.str_eq
  obtain ⟨l⟩ := cs
  simp only [Value.cells] at e0 e1 e2
  match l, hcs with
  | [a, b, c], _ =>
    simp at e0 e1 e2
    rw [e0, e1, e2, r0']
end
end Go.Proofs.YtnfkjodiielidaaGreatDoor

/- Rules that came in, read as plain data. -/
import Derived.Test.YtnfkjodiielidaaGreatDoorBulk
import Derived.Test.YtnfkjodiielidaaGreatDoorOrd
namespace Go.Proofs.YtnfkjodiielidaaGreatDoor
set_option linter.unusedVariables false
set_option linter.unusedSimpArgs false
open Go.RowKit Go.ChangeShapes Go.WideShapes
set_option maxRecDepth 100000

namespace LExpr
/-- How many parts. -/
def nsz : LExpr → Nat
  | mk _ _ _ p => (p.attach.map fun ⟨x, _⟩ => x.nsz).sum + 1
theorem nsz_eq (e : LExpr) : e.nsz = (e.parts.map nsz).sum + 1 := by
  cases e with
  | mk o n f p => simp [nsz, parts]
end LExpr
def LRule.nsz (r : LRule) : Nat := r.expr.nsz
def LKind.nsz (k : LKind) : Nat := (k.rules.map LRule.nsz).sum
section
variable {H : Type} {enc : TypeId × Value → H} {w : World} {base : Nat} {spare : Nat → Bool} {held : Bool}
theorem structN_b {P : Program} {t : TypeId} {fs : Array Field} {fuel : Nat} {cs : List Value} {x : DataW H × List MemPlace} (ht : P.underlying t = some (.struct fs)) (h : DataW.trod enc P w base spare held fuel t cs = some x) :
    ∃ (xs : List (DataW H × List MemPlace)) (n : Nat), fuel = n + 1 ∧ x.1 = .agg (xs.map (·.1)) ∧ cs.length = P.cellsOf t ∧ xs.length = fs.size ∧
      ∀ (i : Nat) (f : Field), fs[i]? = some f → DataW.trod enc P w base spare held n f.type ((cs.drop f.offset).take (P.cellsOf f.type)) = xs[i]? := by
  obtain ⟨xs, n, he, rfl, hl, hlen, hf⟩ := DataW.trod_struct ht h
  exact ⟨xs, n, he, rfl, hl, hlen, hf⟩
theorem cells_str : Tryz.prog.cellsOf 9 = 1 := by kernel_rfl
theorem cells_expr : Tryz.prog.cellsOf 42 = 4 := by kernel_rfl
theorem cells_exprs : Tryz.prog.cellsOf 40 = 1 := by kernel_rfl
theorem cells_rule : Tryz.prog.cellsOf 75 = 5 := by kernel_rfl
theorem cells_rules : Tryz.prog.cellsOf 76 = 1 := by kernel_rfl
theorem cells_kind : Tryz.prog.cellsOf 78 = 2 := by kernel_rfl
theorem read_expr (n : Nat) : ∀ (cs : List Value) (x : DataW H × List MemPlace), DataW.trod enc Tryz.prog w base spare held n 42 cs = some x → Rows.uptoBulk x.1 ≤ 1048576 →
    ∃ t : LExpr, (∀ j, j < 4 → ∃ u, cs[j]? = some u ∧ RepD (fun _ => True) w (t.d.getD j (.bool false)) u) ∧ t.nsz ≤ Rows.uptoBulk x.1 := by
  induction n using Nat.strongRecOn with
  | ind n ih =>
  intro cs x h hb
  obtain ⟨xs, m, rfl, hx1, hl, hlen, hf⟩ := structN_b Tryz.underlying42 h
  rw [cells_expr] at hl
  rw [hx1] at hb ⊢
  match xs, hlen with
  | [y0, y1, y2, y3], _ =>
  have h0 : DataW.trod enc Tryz.prog w base spare held m 9 ((cs.drop 0).take (Tryz.prog.cellsOf 9)) = some y0 := hf 0 _ rfl
  have h1 : DataW.trod enc Tryz.prog w base spare held m 9 ((cs.drop 1).take (Tryz.prog.cellsOf 9)) = some y1 := hf 1 _ rfl
  have h2 : DataW.trod enc Tryz.prog w base spare held m 9 ((cs.drop 2).take (Tryz.prog.cellsOf 9)) = some y2 := hf 2 _ rfl
  have h3 : DataW.trod enc Tryz.prog w base spare held m 40 ((cs.drop 3).take (Tryz.prog.cellsOf 40)) = some y3 := hf 3 _ rfl
  rw [cells_str] at h0 h1 h2
  rw [cells_exprs] at h3
  obtain ⟨s0, e0, _⟩ := DataW.trod_string Tryz.underlying9 h0
  obtain ⟨s1, e1, _⟩ := DataW.trod_string Tryz.underlying9 h1
  obtain ⟨s2, e2, _⟩ := DataW.trod_string Tryz.underlying9 h2
  simp only [Rows.uptoBulk, Rows.uptoBulkAll, List.map_cons, List.map_nil] at hb ⊢
  match cs, hl with
  | [c0, c1, c2, c3], _ =>
    obtain ⟨v2, ps, e3, _, r3, hs3, _⟩ := open_rows_b (q := LExpr.nsz) (dd := LExpr.d) (by omega) Tryz.underlying40 cells_expr (fun n' cs x hn hx hbx => ih n' (by omega) cs x hx hbx) h3 (by omega)
    simp at e0 e1 e2 e3
    subst e0 e1 e2 e3
    refine ⟨.mk s0 s1 s2 ps, fun j hj => ?_, ?_⟩
    · rw [LExpr.d_eq]
      match j, hj with
      | 0, _ => exact ⟨_, rfl, .str _⟩
      | 1, _ => exact ⟨_, rfl, .str _⟩
      | 2, _ => exact ⟨_, rfl, .str _⟩
      | 3, _ => exact ⟨_, rfl, r3⟩
    · rw [LExpr.nsz_eq]
      simp only [LExpr.parts]
      omega
theorem read_rule {n : Nat} {cs : List Value} {x : DataW H × List MemPlace} (h : DataW.trod enc Tryz.prog w base spare held n 75 cs = some x) (hb : Rows.uptoBulk x.1 ≤ 1048576) :
    ∃ t : LRule, (∀ j, j < 5 → ∃ u, cs[j]? = some u ∧ RepD (fun _ => True) w (t.d.getD j (.bool false)) u) ∧ t.nsz ≤ Rows.uptoBulk x.1 := by
  obtain ⟨xs, m, rfl, hx1, hl, hlen, hf⟩ := structN_b Tryz.underlying75 h
  rw [cells_rule] at hl
  rw [hx1] at hb ⊢
  match xs, hlen with
  | [y0, y1], _ =>
  have h0 : DataW.trod enc Tryz.prog w base spare held m 9 ((cs.drop 0).take (Tryz.prog.cellsOf 9)) = some y0 := hf 0 _ rfl
  have h1 : DataW.trod enc Tryz.prog w base spare held m 42 ((cs.drop 1).take (Tryz.prog.cellsOf 42)) = some y1 := hf 1 _ rfl
  rw [cells_str] at h0
  rw [cells_expr] at h1
  obtain ⟨s0, e0, _⟩ := DataW.trod_string Tryz.underlying9 h0
  simp only [Rows.uptoBulk, Rows.uptoBulkAll, List.map_cons, List.map_nil] at hb ⊢
  match cs, hl with
  | [c0, c1, c2, c3, c4], _ =>
    obtain ⟨t, ht, hn⟩ := read_expr _ _ _ h1 (by omega)
    simp at e0
    subst e0
    refine ⟨⟨s0, t⟩, fun j hj => ?_, ?_⟩
    · unfold LRule.d
      match j, hj with
      | 0, _ => exact ⟨_, rfl, .str _⟩
      | j + 1, hj =>
        obtain ⟨u, e, r⟩ := ht j (by omega)
        refine ⟨u, ?_, by simpa using r⟩
        match j, hj, e with
        | 0, _, e => simpa using e
        | 1, _, e => simpa using e
        | 2, _, e => simpa using e
        | 3, _, e => simpa using e
    · show t.nsz ≤ _
      omega
theorem read_kind {n : Nat} {cs : List Value} {x : DataW H × List MemPlace} (h : DataW.trod enc Tryz.prog w base spare held n 78 cs = some x) (hb : Rows.uptoBulk x.1 ≤ 1048576) :
    ∃ t : LKind, (∀ j, j < 2 → ∃ u, cs[j]? = some u ∧ RepD (fun _ => True) w (t.d.getD j (.bool false)) u) ∧ t.nsz ≤ Rows.uptoBulk x.1 := by
  obtain ⟨xs, m, rfl, hx1, hl, hlen, hf⟩ := structN_b Tryz.underlying78 h
  rw [cells_kind] at hl
  rw [hx1] at hb ⊢
  match xs, hlen with
  | [y0, y1], _ =>
  have h0 : DataW.trod enc Tryz.prog w base spare held m 9 ((cs.drop 0).take (Tryz.prog.cellsOf 9)) = some y0 := hf 0 _ rfl
  have h1 : DataW.trod enc Tryz.prog w base spare held m 76 ((cs.drop 1).take (Tryz.prog.cellsOf 76)) = some y1 := hf 1 _ rfl
  rw [cells_str] at h0
  rw [cells_rules] at h1
  obtain ⟨s0, e0, _⟩ := DataW.trod_string Tryz.underlying9 h0
  simp only [Rows.uptoBulk, Rows.uptoBulkAll, List.map_cons, List.map_nil] at hb ⊢
  match cs, hl with
  | [c0, c1], _ =>
    obtain ⟨v1, rs, e1, _, r1, hs1, _⟩ := open_rows_b (q := LRule.nsz) (dd := LRule.d) (by omega) Tryz.underlying76 cells_rule (fun n' cs x hn hx hbx => read_rule hx hbx) h1 (by omega)
    simp at e0 e1
    subst e0 e1
    refine ⟨⟨s0, rs⟩, fun j hj => ?_, ?_⟩
    · unfold LKind.d
      match j, hj with
      | 0, _ => exact ⟨_, rfl, .str _⟩
      | 1, _ => exact ⟨_, rfl, r1⟩
    · show (rs.map LRule.nsz).sum ≤ _
      omega
/-- Rules that came in. -/
theorem open_kinds {v : Value} {d : DataW H} {p : List MemPlace} (hv : v.cells = #[v]) (h : DataW.Trod enc Tryz.prog w base spare held 22 v d p) (hb : Rows.uptoBulk d ≤ 1048576) :
    ∃ xs : List LKind, Slc v ∧ RepD (fun _ => True) w (.slice 2 (xs.map LKind.d)) v ∧ (xs.map LKind.nsz).sum ≤ 1048576 ∧ xs.length ≤ 1048576 := by
  obtain ⟨fuel, hf⟩ := h
  obtain ⟨v', xs, e, hs, hr, h1, h2⟩ := open_rows_b (q := LKind.nsz) (dd := LKind.d) (by omega) Tryz.underlying22 cells_kind (fun n cs x _ hx hbx => read_kind hx hbx) hf hb
  rw [hv] at e
  have : v = v' := by simpa using e
  subst this
  have h3 : (xs.map LKind.nsz).sum + 1 ≤ Rows.uptoBulk d := h1
  have h4 : xs.length + 1 ≤ Rows.uptoBulk d := h2
  exact ⟨xs, hs, hr, by omega, by omega⟩
theorem open_tuples_b {v : Value} {d : DataW H} {p : List MemPlace} (hv : v.cells = #[v]) (h : DataW.Trod enc Tryz.prog w base spare held 23 v d p) (hb : Rows.uptoBulk d ≤ 1048576) :
    ∃ xs : List LTuple, Slc v ∧ RepD (fun _ => True) w (.slice 6 (xs.map LTuple.d)) v ∧ xs.length ≤ 1048576 := by
  obtain ⟨fuel, hf⟩ := h
  obtain ⟨v', xs, e, hs, hr, _, h2⟩ := open_rows_b (q := fun _ => 0) (dd := LTuple.d) (by omega) Tryz.underlying23 cells_tuple (fun n cs x _ hx hbx => by
    obtain ⟨t, rfl⟩ := read_tuple hx
    exact ⟨t, fun j hj => repD_strs6 t j hj, by simp⟩) hf hb
  rw [hv] at e
  have : v = v' := by simpa using e
  subst this
  have h4 : xs.length + 1 ≤ Rows.uptoBulk d := h2
  exact ⟨xs, hs, hr, by omega⟩
end
end Go.Proofs.YtnfkjodiielidaaGreatDoor

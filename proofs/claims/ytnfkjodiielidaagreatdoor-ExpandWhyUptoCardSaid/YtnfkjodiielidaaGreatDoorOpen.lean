/- What came in, read as plain data. -/
import Derived.Test.YtnfkjodiielidaaGreatDoorRep
import Derived.Test.YtnfkjodiielidaaGreatDoorChecked
import Derived.Deep.Strs
import Derived.Deep.Slices
import Derived.Lib.SmallJoins
import Derived.ProofKit
namespace Go.Proofs.YtnfkjodiielidaaGreatDoor
set_option linter.unusedVariables false
set_option linter.unusedSimpArgs false
open Go.RowKit Go.ChangeShapes Go.WideShapes
set_option maxRecDepth 100000

section
variable {H : Type} {enc : TypeId × Value → H} {w : World} {base : Nat} {spare : Nat → Bool} {held : Bool}
theorem cells_string : Tryz.prog.cellsOf 9 = 1 := by kernel_rfl
theorem cells_user : Tryz.prog.cellsOf 25 = 3 := by kernel_rfl
theorem cells_tuple : Tryz.prog.cellsOf 61 = 6 := by kernel_rfl
theorem take_one {cs : List Value} {o : Nat} {v : Value} (h : (cs.drop o).take 1 = [v]) : cs[o]? = some v := by
  have := congrArg (·[0]?) h
  simpa using this
theorem read_user {n : Nat} {cs : List Value} {x : DataW H × List MemPlace} (h : DataW.trod enc Tryz.prog w base spare held n 25 cs = some x) : ∃ u : LUser, cs = u.cells := by
  obtain ⟨y0, y1, y2, m, _, hl, h0, h1, h2⟩ := Go.Deep.trod_struct3 Tryz.underlying25 h
  rw [cells_user] at hl
  simp only [cells_string] at h0 h1 h2
  obtain ⟨s0, e0, _⟩ := DataW.trod_string Tryz.underlying9 h0
  obtain ⟨s1, e1, _⟩ := DataW.trod_string Tryz.underlying9 h1
  obtain ⟨s2, e2, _⟩ := DataW.trod_string Tryz.underlying9 h2
  match cs, hl with
  | [c0, c1, c2], _ =>
    simp at e0 e1 e2
    exact ⟨⟨s0, s1, s2⟩, by subst e0 e1 e2; rfl⟩
theorem read_tuple_of {t : TypeId} {fs0 fs1 fs2 fs3 : Field} (ht : Tryz.prog.underlying t = some (.struct #[fs0, fs1, fs2, fs3])) (hc : Tryz.prog.cellsOf t = 6) (g0 : fs0.type = 9 ∧ fs0.offset = 0) (g1 : fs1.type = 9 ∧ fs1.offset = 1) (g2 : fs2.type = 9 ∧ fs2.offset = 2) (g3 : fs3.type = 25 ∧ fs3.offset = 3)
    {n : Nat} {cs : List Value} {x : DataW H × List MemPlace} (h : DataW.trod enc Tryz.prog w base spare held n t cs = some x) : ∃ u : LTuple, cs = u.cells := by
  obtain ⟨y0, y1, y2, y3, m, _, hl, h0, h1, h2, h3⟩ := Go.Joins.trod_struct4 ht h
  rw [hc] at hl
  rw [g0.1, g0.2, cells_string] at h0
  rw [g1.1, g1.2, cells_string] at h1
  rw [g2.1, g2.2, cells_string] at h2
  rw [g3.1, g3.2, cells_user] at h3
  obtain ⟨s0, e0, _⟩ := DataW.trod_string Tryz.underlying9 h0
  obtain ⟨s1, e1, _⟩ := DataW.trod_string Tryz.underlying9 h1
  obtain ⟨s2, e2, _⟩ := DataW.trod_string Tryz.underlying9 h2
  obtain ⟨u, e3⟩ := read_user h3
  match cs, hl with
  | [c0, c1, c2, c3, c4, c5], _ =>
    simp [LUser.cells] at e0 e1 e2 e3
    obtain ⟨e3, e4, e5⟩ := e3
    exact ⟨⟨s0, s1, s2, u⟩, by subst e0 e1 e2 e3 e4 e5; rfl⟩
theorem read_tuple {n : Nat} {cs : List Value} {x : DataW H × List MemPlace} (h : DataW.trod enc Tryz.prog w base spare held n 61 cs = some x) : ∃ u : LTuple, cs = u.cells :=
  read_tuple_of Tryz.underlying61 cells_tuple ⟨rfl, rfl⟩ ⟨rfl, rfl⟩ ⟨rfl, rfl⟩ ⟨rfl, rfl⟩ h
/-- A tuple by value. -/
theorem open_tuple {r : Reach} {b0 : Nat} {v : Value} {d : DataW H} {p : List MemPlace} (hv : Value.okWide Tryz.prog w r b0 61 v) (h : DataW.Trod enc Tryz.prog w base spare held 61 v d p) : ∃ t : LTuple, v = t.val := by
  obtain ⟨cs, rfl, _⟩ := okWide_struct Tryz.underlying61 hv
  obtain ⟨fuel, hf⟩ := h
  obtain ⟨t, e⟩ := read_tuple hf
  refine ⟨t, ?_⟩
  simp only [Value.cells] at e
  obtain ⟨l⟩ := cs
  simp at e
  subst e
  rfl
theorem open_user {r : Reach} {b0 : Nat} {v : Value} {d : DataW H} {p : List MemPlace} (hv : Value.okWide Tryz.prog w r b0 25 v) (h : DataW.Trod enc Tryz.prog w base spare held 25 v d p) : ∃ t : LUser, v = t.val := by
  obtain ⟨cs, rfl, _⟩ := okWide_struct Tryz.underlying25 hv
  obtain ⟨fuel, hf⟩ := h
  obtain ⟨t, e⟩ := read_user hf
  refine ⟨t, ?_⟩
  simp only [Value.cells] at e
  obtain ⟨l⟩ := cs
  simp at e
  subst e
  rfl

/-- nil, or a slice of some place. -/
def Slc (v : Value) : Prop := v = .slice none 0 0 ∨ ∃ ad n c, v = .slice (some ad) n c
/-- A slice that came in, by rows: each row is read by 'rd'. -/
theorem open_rows {P : Program} {α : Type} {dd : α → List D} {sz : Nat} (hsz : 0 < sz) {t e : TypeId} (ht : P.underlying t = some (.slice e)) (hc : P.cellsOf e = sz)
    (rd : ∀ n cs x, DataW.trod enc P w base spare held n e cs = some x → ∃ a : α, ∀ j, j < sz → ∃ u, cs[j]? = some u ∧ RepD (fun _ => True) w ((dd a).getD j (.bool false)) u)
    {n : Nat} {cs : List Value} {x : DataW H × List MemPlace} (h : DataW.trod enc P w base spare held n t cs = some x) :
    ∃ (v : Value) (xs : List α), cs = [v] ∧ Slc v ∧ (xs.length ≤ 140737488355328 → RepD (fun _ => True) w (.slice sz (xs.map dd)) v) ∧ ((x.1 = .nil ∧ xs = []) ∨ ∃ el sp, x.1 = .slice el sp ∧ el.length = xs.length) := by
  rcases Go.Deep.open_slice ht h with ⟨rfl, rfl⟩ | ⟨a, len, cap, m, n', Dd, Pl, rfl, _, hl, hm, hmm, rfl, hx⟩
  · exact ⟨_, [], rfl, .inl rfl, fun _ => .nil sz none 0, .inl ⟨rfl, rfl⟩⟩
  · have hlm : len ≤ m := by rw [hmm]; split <;> omega
    rcases Nat.eq_zero_or_pos len with h0 | h0
    · subst h0
      exact ⟨_, [], rfl, .inr ⟨_, _, _, rfl⟩, fun _ => .nil sz (some a) cap, .inr ⟨_, _, rfl, by simp⟩⟩
    · have hrow : ∀ k, k < len → ∃ y : α, ∀ j, j < sz → ∃ u, w.cell? (a.add (k * sz + j)) = some u ∧ RepD (fun _ => True) w ((dd y).getD j (.bool false)) u := by
        intro k hk
        obtain ⟨cs', h1, h2⟩ := hx k (by omega)
        rw [hc] at h1
        obtain ⟨_, hlen, hcell⟩ := World.cells?_some h1
        obtain ⟨y, hy⟩ := rd _ _ _ h2
        refine ⟨y, fun j hj => ?_⟩
        obtain ⟨u, hu, hr⟩ := hy j hj
        exact ⟨u, by rw [← Go.Deep.add_add, hcell j hj, hu], hr⟩
      have hspot : a.spot = none := by
        obtain ⟨y, hy⟩ := hrow 0 h0
        obtain ⟨u, hu, _⟩ := hy 0 hsz
        have := World.cell?_spot hu
        unfold Addr.add at this
        split at this <;> simp_all
      obtain ⟨b, off, sp⟩ := a
      simp only at hspot
      subst hspot
      have hadd : ∀ i, (⟨b, off, none⟩ : Addr).add i = ⟨b, off + i, none⟩ := fun i => by unfold Addr.add; simp
      simp only [hadd] at hrow
      have y0 : α := (hrow 0 h0).choose
      have : Inhabited α := ⟨y0⟩
      obtain ⟨f, hf⟩ := Go.Deep.choose_lt hrow
      have hcells : ∀ k, k < len → ∃ g : Nat → Value, ∀ j, j < sz → w.cell? ⟨b, off + k * sz + j, none⟩ = some (g j) ∧ RepD (fun _ => True) w ((dd (f k)).getD j (.bool false)) (g j) := fun k hk => by
        obtain ⟨g, hg⟩ := Go.Deep.choose_lt (hf k hk)
        exact ⟨g, fun j hj => by rw [Nat.add_assoc]; exact hg j hj⟩
      obtain ⟨us, hus⟩ := Go.Deep.choose_lt hcells
      have hbl : b < w.heap.size := World.block_lt_of_cell? w _ ((hus 0 h0) 0 hsz).1
      refine ⟨_, (List.range len).map f, rfl, .inr ⟨_, _, _, rfl⟩, fun hbound => ?_, .inr ⟨_, _, rfl, by simp⟩⟩
      have hlen2 : (((List.range len).map f).map dd).length = len := by simp
      have key : RepD (fun _ => True) w (.slice sz (((List.range len).map f).map dd)) (.slice (some ⟨b, off, none⟩) (((List.range len).map f).map dd).length cap) := by
        refine .cons sz _ b off cap us ?_ trivial hbl ?_ ?_ ?_ ?_
        · intro e; have := congrArg List.length e; rw [hlen2] at this; simp at this; omega
        · rw [hlen2]; simpa using hbound
        · rw [hlen2]; exact hl
        · intro k j hk hj; rw [hlen2] at hk; exact ((hus k hk) j hj).1
        · intro k j hk hj
          rw [hlen2] at hk
          have := ((hus k hk) j hj).2
          unfold D.nth
          rw [List.getD_eq_getElem?_getD (l := ((List.range len).map f).map dd), List.getElem?_eq_getElem (by rw [hlen2]; exact hk)]
          simpa using this
      rw [hlen2] at key
      exact key
theorem repD_strs6 (t : LTuple) (j : Nat) (hj : j < 6) : ∃ u, t.cells[j]? = some u ∧ RepD (fun _ => True) w (t.d.getD j (.bool false)) u := by
  match j, hj with
  | 0, _ => exact ⟨_, rfl, .str _⟩
  | 1, _ => exact ⟨_, rfl, .str _⟩
  | 2, _ => exact ⟨_, rfl, .str _⟩
  | 3, _ => exact ⟨_, rfl, .str _⟩
  | 4, _ => exact ⟨_, rfl, .str _⟩
  | 5, _ => exact ⟨_, rfl, .str _⟩
theorem repD_strs3 (t : LUser) (j : Nat) (hj : j < 3) : ∃ u, t.cells[j]? = some u ∧ RepD (fun _ => True) w (t.d.getD j (.bool false)) u := by
  match j, hj with
  | 0, _ => exact ⟨_, rfl, .str _⟩
  | 1, _ => exact ⟨_, rfl, .str _⟩
  | 2, _ => exact ⟨_, rfl, .str _⟩
/-- A slice of tuples that came in. -/
theorem open_tuples {v : Value} {d : DataW H} {p : List MemPlace} (hv : v.cells = #[v]) (h : DataW.Trod enc Tryz.prog w base spare held 23 v d p) :
    ∃ xs : List LTuple, Slc v ∧ (xs.length ≤ 140737488355328 → RepD (fun _ => True) w (.slice 6 (xs.map LTuple.d)) v) ∧ ((d = .nil ∧ xs = []) ∨ ∃ el sp, d = .slice el sp ∧ el.length = xs.length) := by
  obtain ⟨fuel, hf⟩ := h
  obtain ⟨v', xs, e, hs, hr, hd⟩ := open_rows (dd := LTuple.d) (by omega) Tryz.underlying23 cells_tuple (fun n cs x hx => by
    obtain ⟨t, rfl⟩ := read_tuple hx
    exact ⟨t, fun j hj => repD_strs6 t j hj⟩) hf
  rw [hv] at e
  have : v = v' := by simpa using e
  subst this
  exact ⟨xs, hs, hr, hd⟩
end
end Go.Proofs.YtnfkjodiielidaaGreatDoor

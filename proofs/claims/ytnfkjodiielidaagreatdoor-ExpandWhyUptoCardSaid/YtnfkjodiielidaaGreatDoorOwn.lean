/- A slice of the call's own: rows of any kind; one more appended; read as data. -/
import Derived.Test.YtnfkjodiielidaaGreatDoorOrd
import Derived.Maps.AppendAt
import Derived.Laws.OwnMore
import Derived.Deep.AppendLies
namespace Go.Proofs.YtnfkjodiielidaaGreatDoor
set_option linter.unusedVariables false
set_option linter.unusedSimpArgs false
open Go.RowKit

/-- v is a slice of the call's own, in a block from 'base' on; its rows are by 'enc' those of xs. -/
def OwnL {α : Type} (w : World) (base : Nat) (e : TypeId) (sz : Nat) (enc : α → List Value) (v : Value) (xs : List α) : Prop :=
  w.ownsRow base e sz v xs.length (xs.flatMap enc)

theorem OwnL.nil {α : Type} (w : World) (base : Nat) (e : TypeId) (sz : Nat) (enc : α → List Value) : OwnL w base e sz enc (.slice none 0 0) [] := World.ownsRow_nil w base e sz
theorem OwnL.below {α : Type} {w w' : World} {base : Nat} {e : TypeId} {sz : Nat} {enc : α → List Value} {v : Value} {xs : List α} (h : OwnL w base e sz enc v xs) (hb : Below w.heap.size w w') : OwnL w' base e sz enc v xs :=
  World.ownsRow.kept h (row := none) ⟨hb.os, hb.tape, hb.output, hb.size, fun k hk _ => hb.block k hk⟩ (by cases v.ownBlock <;> simp)
theorem OwnL.block {α : Type} {w : World} {base : Nat} {e : TypeId} {sz : Nat} {enc : α → List Value} {v : Value} {xs : List α} (h : OwnL w base e sz enc v xs) : ∀ k, v.ownBlock = some k → base ≤ k ∧ k < w.heap.size := World.ownsRow.lt h
theorem OwnL.fr {α : Type} {M : Nat → Prop} {w w' : World} {base : Nat} {e : TypeId} {sz : Nat} {enc : α → List Value} {v : Value} {xs : List α} (h : OwnL w base e sz enc v xs) (hf : Fr M w w') (hm : ∀ k, v.ownBlock = some k → ¬ M k) : OwnL w' base e sz enc v xs := by
  obtain ⟨h1, h2⟩ := h
  refine ⟨h1, ?_⟩
  rcases h2 with h2 | ⟨g, cap, cur, rfl, hb, hh, r⟩
  · exact .inl h2
  · exact .inr ⟨g, cap, cur, rfl, hb, (hf.block g (Array.getElem?_eq_some_iff.1 hh).1 (hm g rfl)).trans hh, r⟩
theorem OwnL.rebase {α : Type} {w : World} {base base' : Nat} {e : TypeId} {sz : Nat} {enc : α → List Value} {v : Value} {xs : List α} (h : OwnL w base e sz enc v xs) (hb : base' ≤ base) : OwnL w base' e sz enc v xs := by
  obtain ⟨h1, h2⟩ := h
  refine ⟨h1, ?_⟩
  rcases h2 with h2 | ⟨g, cap, cur, hv, hg, r⟩
  · exact .inl h2
  · exact .inr ⟨g, cap, cur, hv, Nat.le_trans hb hg, r⟩
/-- The value, written out. -/
theorem OwnL.form {α : Type} {w : World} {base : Nat} {e : TypeId} {sz : Nat} {enc : α → List Value} {v : Value} {xs : List α} (h : OwnL w base e sz enc v xs) : ∃ a c, v = .slice a xs.length c ∧ xs.length ≤ c ∧ xs.length ≤ maxLen := by
  rcases h.2 with ⟨rfl, h0⟩ | ⟨g, cap, cur, rfl, _, _, h1, h2, _⟩
  · exact ⟨none, 0, by rw [h0], by omega, by simp only [maxLen]; omega⟩
  · exact ⟨_, cap, rfl, h1, by omega⟩

section
variable {P : Program} {ops : Array Oper} {rest : List Oper} {o : Oper} {a : Act} {Q : Exit → Act → World → Prop}
/-- append(v, y): y lies in a block of its own, just laid. -/
theorem wpList_app {α : Type} (base : Nat) (hgd : o.guard = none) (s x : Operand) (t e : TypeId) (z : Value) (size bytes : Nat)
    (ho : o.op = .call { callee := .builtin .append, args := #[s, x], argTypes := #[t, t] }) (ht : P.underlying t = some (.slice e))
    (hinfo : (P.info? e).map (fun i => (i.zero, i.size, i.bytes)) = some (some z, size, bytes)) (hzs : z.cells.size = size) (hsz : 0 < size) (hby : 0 < bytes)
    (enc : α → List Value) (henc : ∀ x, (enc x).length = size) (h1 : ∀ x, ∀ v ∈ enc x, v.oneCell' = true) {W : World} (v : Value) (xs : List α) (y : α) (hs : a.eval s = v) {N : Nat} (hx : a.eval x = .slice (some ⟨N, 0, none⟩) 1 1) (hN : N = W.heap.size)
    (HO : OwnL W base e size enc v xs) (hbase : base ≤ W.heap.size) (hl : (xs.length + 1) * bytes ≤ 140737488355328)
    (h : ∀ v1 w1, OwnL w1 base e size enc v1 (xs ++ [y]) → Below base W w1 → (Fr (fun k => v.ownBlock = some k) W w1 ∧ ∀ k, v1.ownBlock = some k → v.ownBlock = some k ∨ W.heap.size ≤ k) → wpList P ops Q rest (a.put o.dst v1) w1) :
    wpList P ops Q (o :: rest) a (W.alloc (.cells (enc y).toArray e)) := by
  subst hN
  obtain ⟨i0, hi, hzz⟩ := Option.map_eq_some_iff.1 hinfo
  simp only [Prod.mk.injEq] at hzz
  obtain ⟨hz0, hz1, hz2⟩ := hzz
  have hlen : xs.length + 1 ≤ 140737488355328 := Nat.le_trans (Nat.le_mul_of_pos_right _ hby) hl
  refine wpList_append_own_at (W.alloc (.cells (enc y).toArray e)) hgd s x t ho base e i0 z size bytes ht hi hz0 hz1 hz2 hzs hsz v xs.length (xs.flatMap enc) hs (World.ownsRow.alloc HO _) ⟨W.heap.size, 0, none⟩ 1 1 (enc y) hx (by rw [henc]; omega)
    (World.news_of_block (cs := (enc y).toArray) (t := e) (fr := (0, 0)) (heap_alloc_at rfl)) (h1 y) (by simp only [maxLen]; omega) hl (by simp; omega) ?_
  intro v1 w1 hown hg _ hat
  refine h v1 w1 (by unfold OwnL; simpa using hown) ?_ ⟨?_, ?_⟩
  · exact (((Below.refl base W).alloc hbase _).grown hg (by simp; omega) (fun k hk => (OwnL.block HO k hk).1))
  · refine ⟨hg.os, hg.tape, hg.output, by have := hg.size; simp at this; omega, fun k hk hkn => ?_⟩
    rw [hg.block k (by simp; omega) (fun e => hkn e.symm)]
    exact Below.heap_alloc _ _ _ hk
  · intro k hk
    rcases hat with hat | hat
    · exact .inl (hat ▸ hk)
    · rw [hat] at hk; simp at hk; exact .inr (by omega)
end

/-! ### An own slice as data -/
theorem getD_flatMap {α : Type} (enc : α → List Value) (sz : Nat) (henc : ∀ x, (enc x).length = sz) (xs : List α) (k j : Nat) (hk : k < xs.length) (hj : j < sz) (u : Value) : (xs.flatMap enc).getD (k * sz + j) u = (enc xs[k]).getD j u := by
  induction xs generalizing k with
  | nil => simp at hk
  | cons x xs ih =>
    rw [List.flatMap_cons]
    cases k with
    | zero =>
      simp only [List.getD_eq_getElem?_getD, Nat.zero_mul, Nat.zero_add, List.getElem_cons_zero]
      rw [List.getElem?_append_left (by rw [henc]; exact hj)]
    | succ k =>
      have := ih k (by simpa using hk)
      rw [← List.getElem_cons_succ (a := x) (as := xs) (h := by simpa using hk)] at this
      rw [← this]
      simp only [List.getD_eq_getElem?_getD]
      rw [List.getElem?_append_right (by rw [henc, Nat.add_mul]; omega), henc]
      congr 2
      rw [Nat.add_mul]; omega
theorem OwnL.rep {α : Type} {A : Nat → Prop} {w : World} {base : Nat} {e : TypeId} {sz : Nat} {enc : α → List Value} {v : Value} {xs : List α} (h : OwnL w base e sz enc v xs) (henc : ∀ x, (enc x).length = sz) (d : α → List D)
    (hd : ∀ x, ∀ j, j < sz → RepD A w ((d x).getD j (.bool false)) ((enc x).getD j undef)) (hA : ∀ b, base ≤ b → A b) (hl : xs.length ≤ 140737488355328) : RepD A w (.slice sz (xs.map d)) v := by
  refine RepD.of_own h (by simp) hA hl fun k j hk hj => ?_
  rw [getD_flatMap enc sz henc xs k j hk hj]
  have := hd xs[k] j hj
  simpa [D.nth, hk] using this
theorem OwnL.reps {α : Type} {A : Nat → Prop} {w : World} {base : Nat} {e : TypeId} {sz : Nat} {enc : α → List Value} {v : Value} {xs : List α} (h : OwnL w base e sz enc v xs) (henc : ∀ x, (enc x).length = sz) (d : α → List D)
    (hd : ∀ x, x ∈ xs → ∀ j, j < sz → RepD A w ((d x).getD j (.bool false)) ((enc x).getD j undef)) (hA : ∀ b, base ≤ b → v.ownBlock = some b → A b) (hl : xs.length ≤ 140737488355328) : RepD A w (.slice sz (xs.map d)) v := by
  have h2 : RepD (fun b => A b ∨ v.ownBlock ≠ some b) w (.slice sz (xs.map d)) v := by
    refine RepD.of_own h (by simp) (fun b hb => ?_) hl fun k j hk hj => ?_
    · by_cases hbb : v.ownBlock = some b
      · exact .inl (hA b hb hbb)
      · exact .inr hbb
    · rw [getD_flatMap enc sz henc xs k j hk hj]
      have := (hd xs[k] (List.getElem_mem hk) j hj).mono (A' := fun b => A b ∨ v.ownBlock ≠ some b) (fun b hb _ => .inl hb)
      simpa [D.nth, hk] using this
  generalize hq : D.slice sz (xs.map d) = q at h2
  cases h2 with
  | str => cases hq
  | int => cases hq
  | bool => cases hq
  | nil => exact .nil _ _ _
  | cons sz' es b off c us h0 hAb hlt hl' hc hcell hr =>
    injection hq with e1 e2
    subst e1
    subst e2
    rw [List.length_map] at *
    have h3 := RepD.cons (A := A) (w := w) sz (xs.map d) b off c us h0 (hAb.elim id fun hn => absurd rfl hn) hlt (by simpa using hl') (by simpa using hc) (by simpa using hcell) (fun k j hk hj => ?_)
    · simpa using h3
    · have hk' : k < xs.length := by simpa using hk
      have h4 := hd xs[k] (List.getElem_mem hk') j hj
      have h5 := hcell k j hk' hj
      rcases h.2 with ⟨hv, _⟩ | ⟨g, cap, cur, hv, hb, hh, hnc, hcap, hcs, htk⟩
      · cases hv
      · injection hv with hv1 hv2 hv3
        injection hv1 with hv1
        injection hv1 with hg hoff
        subst hg hoff
        have hlt' : k * sz + j < xs.length * sz := by
          have h1 : (k + 1) * sz ≤ xs.length * sz := Nat.mul_le_mul_right sz hk'
          rw [Nat.add_mul, Nat.one_mul] at h1; omega
        have h6 : cur.toList[k * sz + j]? = (xs.flatMap enc)[k * sz + j]? := by rw [← htk, List.getElem?_take_of_lt hlt']
        simp only [World.cell?, hh, Nat.zero_add] at h5
        rw [← Array.getElem?_toList, h6] at h5
        have h7 := getD_flatMap enc sz henc xs k j hk' hj undef
        rw [List.getD_eq_getElem?_getD] at h7
        have h8 : (xs.flatMap enc)[k * sz + j]? = some (us k j) := by simpa using h5
        rw [h8] at h7
        simp only [Option.getD_some] at h7
        rw [h7]
        simpa [D.nth, hk'] using h4
/-- Texts, users and tuples of the call's own. -/
def strCells (s : ByteArray) : List Value := [.string s]
def strD (s : ByteArray) : List D := [.str s]
theorem LUser.len (u : LUser) : u.cells.length = 3 := rfl
theorem LTuple.len (t : LTuple) : t.cells.length = 6 := rfl
theorem strCells_len (s : ByteArray) : (strCells s).length = 1 := rfl
theorem LUser.one (u : LUser) : ∀ v ∈ u.cells, v.oneCell' = true := by intro v hv; simp [LUser.cells] at hv; rcases hv with rfl | rfl | rfl <;> rfl
theorem LTuple.one (t : LTuple) : ∀ v ∈ t.cells, v.oneCell' = true := by intro v hv; simp [LTuple.cells] at hv; rcases hv with rfl | rfl | rfl | rfl | rfl | rfl <;> rfl
theorem strCells_one (s : ByteArray) : ∀ v ∈ strCells s, v.oneCell' = true := by intro v hv; simp [strCells] at hv; subst hv; rfl
section
variable {A : Nat → Prop} {w : World} {base : Nat} {e : TypeId} {v : Value}
theorem OwnL.users {xs : List LUser} (h : OwnL w base e 3 LUser.cells v xs) (hA : ∀ b, base ≤ b → A b) (hl : xs.length ≤ 140737488355328) : RepD A w (.slice 3 (xs.map LUser.d)) v :=
  h.rep LUser.len LUser.d (fun x j hj => by
    match j, hj with
    | 0, _ => exact .str _
    | 1, _ => exact .str _
    | 2, _ => exact .str _) hA hl
theorem OwnL.tuples {xs : List LTuple} (h : OwnL w base e 6 LTuple.cells v xs) (hA : ∀ b, base ≤ b → A b) (hl : xs.length ≤ 140737488355328) : RepD A w (.slice 6 (xs.map LTuple.d)) v :=
  h.rep LTuple.len LTuple.d (fun x j hj => by
    match j, hj with
    | 0, _ => exact .str _
    | 1, _ => exact .str _
    | 2, _ => exact .str _
    | 3, _ => exact .str _
    | 4, _ => exact .str _
    | 5, _ => exact .str _) hA hl
theorem OwnL.strs {xs : List ByteArray} (h : OwnL w base e 1 strCells v xs) (hA : ∀ b, base ≤ b → A b) (hl : xs.length ≤ 140737488355328) : RepD A w (.slice 1 (xs.map fun s => [.str s])) v :=
  h.rep strCells_len strD (fun x j hj => by
    match j, hj with
    | 0, _ => exact .str _) hA hl
end
end Go.Proofs.YtnfkjodiielidaaGreatDoor

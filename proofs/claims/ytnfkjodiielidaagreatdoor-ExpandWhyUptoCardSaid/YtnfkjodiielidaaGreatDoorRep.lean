/- Data in memory, told once for all kinds: strings, numbers, truths, and slices of rows of these; a frame with exceptions; the types of the layers 11 to 15 as plain data. -/
import Derived.WalkKit
import Derived.WalkLawsBesides
import Derived.WalkSpells
import Derived.Lib.Hide
namespace Go.Proofs.YtnfkjodiielidaaGreatDoor
set_option linter.unusedVariables false
set_option linter.unusedSimpArgs false
open Go.RowKit

/-- A fact that the walk's simp doesn't look into. -/
structure Aside (p : Prop) : Prop where mk :: (out : p)

theorem ret_int {k : IntKind} {a b : Int} (h : a = b) : Ending.returned (.int k a) = .returned (.int k b) := by rw [h]
theorem ret_bool {a b : Bool} (h : a = b) : Ending.returned (.bool a) = .returned (.bool b) := by rw [h]

theorem heap_alloc_at {w : World} {o : Obj} {n : Nat} (h : n = w.heap.size) : (w.alloc o).heap[n]? = some o := by subst h; show (w.heap.push o)[_]? = _; simp

theorem below_past {w a b : World} (h : Below w.heap.size w a) (k : Below a.heap.size a b) : Below w.heap.size w b := h.trans (k.mono h.size)

/-- What lay in W, read in what W has grown to. -/
theorem bcell {W w1 : World} (hb : Below W.heap.size W w1) : (∀ b o, b < W.heap.size → w1.cell? ⟨b, o, none⟩ = W.cell? ⟨b, o, none⟩) ∧ (∀ b o, b < W.heap.size → w1.frozen? ⟨b, o, none⟩ = W.frozen? ⟨b, o, none⟩) :=
  ⟨fun b o h => hb.cell (p := ⟨b, o, none⟩) h, fun b o h => hb.frozen (p := ⟨b, o, none⟩) h⟩
theorem below_lt {W w1 : World} {n : Nat} (hb : Below W.heap.size W w1) (h : n < W.heap.size) : n < w1.heap.size := Nat.lt_of_lt_of_le h hb.size

/-- New blocks, and draws: nothing else. -/
structure Grw (w w' : World) : Prop where
  below : Below w.heap.size w w'
  drawn : w.drawn ≤ w'.drawn
theorem Grw.refl (w : World) : Grw w w := ⟨Below.refl _ w, Nat.le_refl _⟩
theorem Grw.trans {a b c : World} (h : Grw a b) (k : Grw b c) : Grw a c := ⟨below_past h.below k.below, Nat.le_trans h.drawn k.drawn⟩
theorem Grw.alloc {a b : World} (h : Grw a b) (o : Obj) : Grw a (b.alloc o) := ⟨h.below.alloc h.below.size o, h.drawn⟩
theorem Grw.drew {a b : World} (h : Grw a b) : Grw a b.drew := ⟨h.below.drew, Nat.le_trans h.drawn (Nat.le_succ _)⟩
theorem Grw.drewN {a b : World} (h : Grw a b) (n : Nat) : Grw a (b.drewN n) := ⟨below_drewN h.below n, Nat.le_trans h.drawn (Nat.le_add_right _ _)⟩

/-! ### A cell's datum -/
inductive D where
  | str (s : ByteArray)
  | int (i : Int)
  | bool (b : Bool)
  | slice (sz : Nat) (es : List (List D))

def D.nth (es : List (List D)) (k j : Nat) : D := (es.getD k []).getD j (.bool false)

/-- A value stands for a datum; the blocks that it lies in are let by A. -/
inductive RepD (A : Nat → Prop) (w : World) : D → Value → Prop
  | str (s : ByteArray) : RepD A w (.str s) (.string s)
  | int (i : Int) : RepD A w (.int i) (.int .i64 i)
  | bool (b : Bool) : RepD A w (.bool b) (.bool b)
  | nil (sz : Nat) (a : Option Addr) (c : Nat) : RepD A w (.slice sz []) (.slice a 0 c)
  | cons (sz : Nat) (es : List (List D)) (b off c : Nat) (us : Nat → Nat → Value) : es ≠ [] → A b → b < w.heap.size → es.length ≤ 140737488355328 → es.length ≤ c →
      (∀ k j, k < es.length → j < sz → w.cell? ⟨b, off + k * sz + j, none⟩ = some (us k j)) →
      (∀ k j, k < es.length → j < sz → RepD A w (D.nth es k j) (us k j)) → RepD A w (.slice sz es) (.slice (some ⟨b, off, none⟩) es.length c)

theorem RepD.keep {A : Nat → Prop} {w w' : World} {d : D} {v : Value} (h : RepD A w d v) (hw : ∀ b, A b → b < w.heap.size → w'.heap[b]? = w.heap[b]?) : RepD A w' d v := by
  induction h with
  | str s => exact .str s
  | int i => exact .int i
  | bool b => exact .bool b
  | nil sz a c => exact .nil sz a c
  | cons sz es b off c us h0 hA hlt hl hc hcell _ ih =>
    have hb := hw b hA hlt
    refine .cons sz es b off c us h0 hA ?_ hl hc (fun k j hk hj => ?_) ih
    · rw [Array.getElem?_eq_getElem hlt] at hb
      exact (Array.getElem?_eq_some_iff.1 hb).1
    have h1 := hcell k j hk hj
    rw [← h1]
    exact World.cell?_of_block (w := w) hb

theorem RepD.mono {A A' : Nat → Prop} {w : World} {d : D} {v : Value} (h : RepD A w d v) (hA : ∀ b, A b → b < w.heap.size → A' b) : RepD A' w d v := by
  induction h with
  | str s => exact .str s
  | int i => exact .int i
  | bool b => exact .bool b
  | nil sz a c => exact .nil sz a c
  | cons sz es b off c us h0 hb hlt hl hc hcell _ ih => exact .cons sz es b off c us h0 (hA b hb hlt) hlt hl hc hcell ih

theorem RepD.old {A : Nat → Prop} {w w' : World} {d : D} {v : Value} (h : RepD A w d v) (hw : Below w.heap.size w w') : RepD A w' d v :=
  h.keep fun b _ hb => hw.block b hb

/-- A slice, opened: its rows by 'enc'. -/
theorem RepD.rows {α : Type} {enc : α → List D} {sz : Nat} {A : Nat → Prop} {w : World} {xs : List α} {v : Value} (h : RepD A w (.slice sz (xs.map enc)) v) :
    ∃ a c, ∃ us : Nat → Nat → Value, v = .slice a xs.length c ∧ xs.length ≤ c ∧ xs.length ≤ 140737488355328 ∧ ∀ k (hk : k < xs.length), ∃ b off : Nat, a = some ⟨b, off, none⟩ ∧ A b ∧
      ∀ j, j < sz → w.cell? ⟨b, off + k * sz + j, none⟩ = some (us k j) ∧ RepD A w ((enc xs[k]).getD j (.bool false)) (us k j) := by
  generalize hd : D.slice sz (xs.map enc) = d at h
  cases h with
  | str => cases hd
  | int => cases hd
  | bool => cases hd
  | nil sz a c =>
    injection hd with h1 h2
    have : xs = [] := by simpa using h2
    subst this
    exact ⟨a, c, fun _ _ => undef, rfl, by simp, by simp, fun k hk => absurd hk (by simp)⟩
  | cons sz es b off c us h0 hA hlt hl hc hcell hrep =>
    injection hd with h1 h2
    subst h1; subst h2
    simp only [List.length_map] at *
    refine ⟨_, c, us, rfl, hc, hl, fun k hk => ⟨b, off, rfl, hA, fun j hj => ⟨hcell k j hk hj, ?_⟩⟩⟩
    have r := hrep k j hk hj
    simpa [D.nth, hk] using r

theorem RepD.form {A : Nat → Prop} {w : World} {sz : Nat} {es : List (List D)} {v : Value} (h : RepD A w (.slice sz es) v) : ∃ a c, v = .slice a es.length c := by
  cases h with
  | nil => exact ⟨_, _, rfl⟩
  | cons => exact ⟨_, _, rfl⟩
theorem RepD.formM {α : Type} {enc : α → List D} {A : Nat → Prop} {w : World} {sz : Nat} {xs : List α} {v : Value} (h : RepD A w (.slice sz (xs.map enc)) v) : ∃ a c, v = .slice a xs.length c := by
  obtain ⟨a, c, e⟩ := h.form
  exact ⟨a, c, by simpa using e⟩
theorem RepD.str_eq {A : Nat → Prop} {w : World} {s : ByteArray} {v : Value} (h : RepD A w (.str s) v) : v = .string s := by cases h; rfl
theorem RepD.str_cell {A : Nat → Prop} {w : World} {s : ByteArray} {d : D} {v : Value} (h : RepD A w d v) (hd : d = .str s) : v = .string s := by subst hd; exact h.str_eq
theorem RepD.int_eq {A : Nat → Prop} {w : World} {i : Int} {v : Value} (h : RepD A w (.int i) v) : v = .int .i64 i := by cases h; rfl
theorem RepD.bool_eq {A : Nat → Prop} {w : World} {b : Bool} {v : Value} (h : RepD A w (.bool b) v) : v = .bool b := by cases h; rfl

/-- A row of the call's own stands for a slice. -/
theorem RepD.of_own {A : Nat → Prop} {w : World} {base e sz n : Nat} {v : Value} {cells : List Value} {es : List (List D)} (h : w.ownsRow base e sz v n cells) (hn : es.length = n) (hA : ∀ b, base ≤ b → A b)
    (hl : n ≤ 140737488355328) (hr : ∀ k j, k < n → j < sz → RepD A w (D.nth es k j) (cells.getD (k * sz + j) undef)) : RepD A w (.slice sz es) v := by
  subst hn
  rcases Nat.eq_zero_or_pos es.length with h0 | h0
  · obtain rfl : es = [] := List.eq_nil_of_length_eq_zero h0
    rcases h.2 with ⟨rfl, _⟩ | ⟨g, cap, cur, rfl, _⟩
    · exact .nil sz _ _
    · exact .nil sz _ _
  · obtain ⟨hlen, h2⟩ := h
    rcases h2 with ⟨rfl, hz⟩ | ⟨g, cap, cur, rfl, hb, hh, hnc, hcap, hcs, htk⟩
    · omega
    · refine .cons sz es g 0 cap (fun k j => cells.getD (k * sz + j) undef) (by intro e; simp [e] at h0) (hA g hb) (Array.getElem?_eq_some_iff.1 hh).1 hl hnc (fun k j hk hj => ?_) hr
      have hlt : k * sz + j < es.length * sz := by
        have h1 : (k + 1) * sz ≤ es.length * sz := Nat.mul_le_mul_right sz hk
        rw [Nat.add_mul, Nat.one_mul] at h1; omega
      have hlt2 : k * sz + j < cells.length := by rw [hlen]; exact hlt
      have h3 : cur.toList[k * sz + j]? = cells[k * sz + j]? := by
        rw [← htk, List.getElem?_take_of_lt hlt]
      simp only [World.cell?, hh, Nat.zero_add]
      rw [← Array.getElem?_toList, h3, List.getD_eq_getElem?_getD, List.getElem?_eq_getElem hlt2]
      rfl

/-! ### A frame with exceptions -/
/-- All blocks that there were, but for those of M, are as they were. -/
structure Fr (M : Nat → Prop) (w w' : World) : Prop where
  os : w'.os = w.os
  tape : w'.tape = w.tape
  output : w'.output = w.output
  size : w.heap.size ≤ w'.heap.size
  block : ∀ k, k < w.heap.size → ¬ M k → w'.heap[k]? = w.heap[k]?
theorem Fr.refl (M : Nat → Prop) (w : World) : Fr M w w := ⟨rfl, rfl, rfl, Nat.le_refl _, fun _ _ _ => rfl⟩
theorem Fr.trans {M : Nat → Prop} {a b c : World} (h : Fr M a b) (k : Fr M b c) : Fr M a c :=
  ⟨k.os.trans h.os, k.tape.trans h.tape, k.output.trans h.output, Nat.le_trans h.size k.size, fun i hi hm => (k.block i (Nat.lt_of_lt_of_le hi h.size) hm).trans (h.block i hi hm)⟩
theorem Fr.of_below {M : Nat → Prop} {w w' : World} (h : Below w.heap.size w w') : Fr M w w' := ⟨h.os, h.tape, h.output, h.size, fun i hi _ => h.block i hi⟩
theorem Fr.mono {M M' : Nat → Prop} {w w' : World} (h : Fr M w w') (hm : ∀ k, k < w.heap.size → M k → M' k) : Fr M' w w' := ⟨h.os, h.tape, h.output, h.size, fun i hi hn => h.block i hi fun hk => hn (hm i hi hk)⟩
theorem Fr.below {M : Nat → Prop} {B : Nat} {w w' : World} (h : Fr M w w') (hB : B ≤ w.heap.size) (hM : ∀ k, k < B → ¬ M k) : Below B w w' := ⟨h.os, h.tape, h.output, h.size, fun i hi => h.block i (by omega) (hM i hi)⟩
theorem Fr.cell {M : Nat → Prop} {w w' : World} (h : Fr M w w') {b o : Nat} (hb : b < w.heap.size) (hm : ¬ M b) : w'.cell? ⟨b, o, none⟩ = w.cell? ⟨b, o, none⟩ := World.cell?_of_block (w := w) (h.block b hb hm)
theorem Fr.frozen {M : Nat → Prop} {w w' : World} (h : Fr M w w') {b o : Nat} (hb : b < w.heap.size) (hm : ¬ M b) : w'.frozen? ⟨b, o, none⟩ = w.frozen? ⟨b, o, none⟩ := World.frozen?_of_block (w := w) (h.block b hb hm)
theorem RepD.fr {A M : Nat → Prop} {w w' : World} {d : D} {v : Value} (h : RepD A w d v) (hf : Fr M w w') (hM : ∀ b, A b → ¬ M b) : RepD A w' d v := h.keep fun b hA hb => hf.block b hb (hM b hA)

/-! ### The types -/
structure LUser where
  kind : ByteArray
  id : ByteArray
  rel : ByteArray
  deriving DecidableEq, Inhabited
structure LTuple where
  kind : ByteArray
  id : ByteArray
  rel : ByteArray
  user : LUser
  deriving DecidableEq, Inhabited
inductive LExpr where
  | mk (op name of : ByteArray) (parts : List LExpr)
structure LRule where
  rel : ByteArray
  expr : LExpr
structure LKind where
  name : ByteArray
  rules : List LRule
inductive LTree where
  | mk (op : ByteArray) (users : List LUser) (parts : List LTree)

namespace LUser
def strs (u : LUser) : List ByteArray := [u.kind, u.id, u.rel]
def cells (u : LUser) : List Value := [.string u.kind, .string u.id, .string u.rel]
def d (u : LUser) : List D := [.str u.kind, .str u.id, .str u.rel]
def val (u : LUser) : Value := .agg #[.string u.kind, .string u.id, .string u.rel]
end LUser
namespace LTuple
def strs (t : LTuple) : List ByteArray := [t.kind, t.id, t.rel, t.user.kind, t.user.id, t.user.rel]
def cells (t : LTuple) : List Value := [.string t.kind, .string t.id, .string t.rel, .string t.user.kind, .string t.user.id, .string t.user.rel]
def d (t : LTuple) : List D := [.str t.kind, .str t.id, .str t.rel, .str t.user.kind, .str t.user.id, .str t.user.rel]
def val (t : LTuple) : Value := .agg #[.string t.kind, .string t.id, .string t.rel, .string t.user.kind, .string t.user.id, .string t.user.rel]
end LTuple
namespace LExpr
def op : LExpr → ByteArray | mk o _ _ _ => o
def name : LExpr → ByteArray | mk _ n _ _ => n
def of : LExpr → ByteArray | mk _ _ o _ => o
def parts : LExpr → List LExpr | mk _ _ _ p => p
theorem eta (e : LExpr) : LExpr.mk e.op e.name e.of e.parts = e := by cases e; rfl
def d : LExpr → List D
  | mk o n f p => [.str o, .str n, .str f, .slice 4 (p.attach.map fun ⟨x, _⟩ => x.d)]
theorem d_eq (e : LExpr) : e.d = [.str e.op, .str e.name, .str e.of, .slice 4 (e.parts.map d)] := by
  cases e with
  | mk o n f p => simp [d, op, name, of, parts]
theorem lt_of_mem {e x : LExpr} (hx : x ∈ e.parts) : SizeOf.sizeOf x < SizeOf.sizeOf e := by
  cases e with
  | mk o n f p => have := List.sizeOf_lt_of_mem hx; simp only [parts] at this; simp only [mk.sizeOf_spec]; omega
theorem ind {P : LExpr → Prop} (h : ∀ e : LExpr, (∀ x, x ∈ e.parts → P x) → P e) (e : LExpr) : P e :=
  h e fun x hx => by
    have := lt_of_mem hx
    exact ind h x
termination_by SizeOf.sizeOf e
end LExpr
def LRule.d (r : LRule) : List D := .str r.rel :: r.expr.d
def LKind.d (k : LKind) : List D := [.str k.name, .slice 5 (k.rules.map LRule.d)]
namespace LTree
def op : LTree → ByteArray | mk o _ _ => o
def users : LTree → List LUser | mk _ u _ => u
def parts : LTree → List LTree | mk _ _ p => p
theorem eta (e : LTree) : LTree.mk e.op e.users e.parts = e := by cases e; rfl
def d : LTree → List D
  | mk o u p => [.str o, .slice 3 (u.map LUser.d), .slice 3 (p.attach.map fun ⟨x, _⟩ => x.d)]
theorem d_eq (e : LTree) : e.d = [.str e.op, .slice 3 (e.users.map LUser.d), .slice 3 (e.parts.map d)] := by
  cases e with
  | mk o u p => simp [d, op, users, parts]
theorem lt_of_mem {e x : LTree} (hx : x ∈ e.parts) : SizeOf.sizeOf x < SizeOf.sizeOf e := by
  cases e with
  | mk o u p => have := List.sizeOf_lt_of_mem hx; simp only [parts] at this; simp only [mk.sizeOf_spec]; omega
theorem ind {P : LTree → Prop} (h : ∀ e : LTree, (∀ x, x ∈ e.parts → P x) → P e) (e : LTree) : P e :=
  h e fun x hx => by
    have := lt_of_mem hx
    exact ind h x
termination_by SizeOf.sizeOf e
end LTree

/-! ### Slices of these, opened -/
section
variable {A : Nat → Prop} {w : World} {v : Value}
theorem RepD.strs {xs : List ByteArray} (h : RepD A w (.slice 1 (xs.map fun s => [.str s])) v) :
    ∃ a c, v = .slice a xs.length c ∧ xs.length ≤ c ∧ xs.length ≤ 140737488355328 ∧ ∀ k (hk : k < xs.length), ∃ b off, a = some ⟨b, off, none⟩ ∧ A b ∧ w.cell? ⟨b, off + k, none⟩ = some (.string xs[k]) := by
  obtain ⟨a, c, us, hv, hc, hl, hk⟩ := h.rows
  refine ⟨a, c, hv, hc, hl, fun k hlt => ?_⟩
  obtain ⟨b, off, ha, hA, hj⟩ := hk k hlt
  obtain ⟨c0, r0⟩ := hj 0 (by omega)
  rw [RepD.str_cell r0 rfl] at c0
  exact ⟨b, off, ha, hA, by simpa using c0⟩
theorem RepD.users {xs : List LUser} (h : RepD A w (.slice 3 (xs.map LUser.d)) v) :
    ∃ a c, v = .slice a xs.length c ∧ xs.length ≤ c ∧ xs.length ≤ 140737488355328 ∧ ∀ k (hk : k < xs.length), ∃ b off, a = some ⟨b, off, none⟩ ∧ A b ∧
      w.cell? ⟨b, off + k * 3, none⟩ = some (.string xs[k].kind) ∧ w.cell? ⟨b, off + k * 3 + 1, none⟩ = some (.string xs[k].id) ∧ w.cell? ⟨b, off + k * 3 + 2, none⟩ = some (.string xs[k].rel) := by
  obtain ⟨a, c, us, hv, hc, hl, hk⟩ := h.rows
  refine ⟨a, c, hv, hc, hl, fun k hlt => ?_⟩
  obtain ⟨b, off, ha, hA, hj⟩ := hk k hlt
  obtain ⟨c0, r0⟩ := hj 0 (by omega)
  obtain ⟨c1, r1⟩ := hj 1 (by omega)
  obtain ⟨c2, r2⟩ := hj 2 (by omega)
  rw [RepD.str_cell r0 rfl] at c0
  rw [RepD.str_cell r1 rfl] at c1
  rw [RepD.str_cell r2 rfl] at c2
  exact ⟨b, off, ha, hA, c0, c1, c2⟩
theorem RepD.tuples {xs : List LTuple} (h : RepD A w (.slice 6 (xs.map LTuple.d)) v) :
    ∃ a c, v = .slice a xs.length c ∧ xs.length ≤ c ∧ xs.length ≤ 140737488355328 ∧ ∀ k (hk : k < xs.length), ∃ b off, a = some ⟨b, off, none⟩ ∧ A b ∧
      w.cell? ⟨b, off + k * 6, none⟩ = some (.string xs[k].kind) ∧ w.cell? ⟨b, off + k * 6 + 1, none⟩ = some (.string xs[k].id) ∧ w.cell? ⟨b, off + k * 6 + 2, none⟩ = some (.string xs[k].rel) ∧
      w.cell? ⟨b, off + k * 6 + 3, none⟩ = some (.string xs[k].user.kind) ∧ w.cell? ⟨b, off + k * 6 + 4, none⟩ = some (.string xs[k].user.id) ∧ w.cell? ⟨b, off + k * 6 + 5, none⟩ = some (.string xs[k].user.rel) := by
  obtain ⟨a, c, us, hv, hc, hl, hk⟩ := h.rows
  refine ⟨a, c, hv, hc, hl, fun k hlt => ?_⟩
  obtain ⟨b, off, ha, hA, hj⟩ := hk k hlt
  obtain ⟨c0, r0⟩ := hj 0 (by omega)
  obtain ⟨c1, r1⟩ := hj 1 (by omega)
  obtain ⟨c2, r2⟩ := hj 2 (by omega)
  obtain ⟨c3, r3⟩ := hj 3 (by omega)
  obtain ⟨c4, r4⟩ := hj 4 (by omega)
  obtain ⟨c5, r5⟩ := hj 5 (by omega)
  rw [RepD.str_cell r0 rfl] at c0
  rw [RepD.str_cell r1 rfl] at c1
  rw [RepD.str_cell r2 rfl] at c2
  rw [RepD.str_cell r3 rfl] at c3
  rw [RepD.str_cell r4 rfl] at c4
  rw [RepD.str_cell r5 rfl] at c5
  exact ⟨b, off, ha, hA, c0, c1, c2, c3, c4, c5⟩
theorem RepD.exprs {xs : List LExpr} (h : RepD A w (.slice 4 (xs.map LExpr.d)) v) :
    ∃ a c, ∃ us : Nat → Value, v = .slice a xs.length c ∧ xs.length ≤ c ∧ xs.length ≤ 140737488355328 ∧ ∀ k (hk : k < xs.length), ∃ b off, a = some ⟨b, off, none⟩ ∧ A b ∧
      w.cell? ⟨b, off + k * 4, none⟩ = some (.string xs[k].op) ∧ w.cell? ⟨b, off + k * 4 + 1, none⟩ = some (.string xs[k].name) ∧ w.cell? ⟨b, off + k * 4 + 2, none⟩ = some (.string xs[k].of) ∧
      w.cell? ⟨b, off + k * 4 + 3, none⟩ = some (us k) ∧ RepD A w (.slice 4 (xs[k].parts.map LExpr.d)) (us k) := by
  obtain ⟨a, c, us, hv, hc, hl, hk⟩ := h.rows
  refine ⟨a, c, fun k => us k 3, hv, hc, hl, fun k hlt => ?_⟩
  obtain ⟨b, off, ha, hA, hj⟩ := hk k hlt
  obtain ⟨c0, r0⟩ := hj 0 (by omega)
  obtain ⟨c1, r1⟩ := hj 1 (by omega)
  obtain ⟨c2, r2⟩ := hj 2 (by omega)
  obtain ⟨c3, r3⟩ := hj 3 (by omega)
  rw [LExpr.d_eq] at r0 r1 r2 r3
  rw [RepD.str_cell r0 rfl] at c0
  rw [RepD.str_cell r1 rfl] at c1
  rw [RepD.str_cell r2 rfl] at c2
  exact ⟨b, off, ha, hA, c0, c1, c2, c3, by simpa using r3⟩
theorem RepD.rules {xs : List LRule} (h : RepD A w (.slice 5 (xs.map LRule.d)) v) :
    ∃ a c, ∃ us : Nat → Value, v = .slice a xs.length c ∧ xs.length ≤ c ∧ xs.length ≤ 140737488355328 ∧ ∀ k (hk : k < xs.length), ∃ b off, a = some ⟨b, off, none⟩ ∧ A b ∧
      w.cell? ⟨b, off + k * 5, none⟩ = some (.string xs[k].rel) ∧ w.cell? ⟨b, off + k * 5 + 1, none⟩ = some (.string xs[k].expr.op) ∧ w.cell? ⟨b, off + k * 5 + 2, none⟩ = some (.string xs[k].expr.name) ∧ w.cell? ⟨b, off + k * 5 + 3, none⟩ = some (.string xs[k].expr.of) ∧
      w.cell? ⟨b, off + k * 5 + 4, none⟩ = some (us k) ∧ RepD A w (.slice 4 (xs[k].expr.parts.map LExpr.d)) (us k) := by
  obtain ⟨a, c, us, hv, hc, hl, hk⟩ := h.rows
  refine ⟨a, c, fun k => us k 4, hv, hc, hl, fun k hlt => ?_⟩
  obtain ⟨b, off, ha, hA, hj⟩ := hk k hlt
  obtain ⟨c0, r0⟩ := hj 0 (by omega)
  obtain ⟨c1, r1⟩ := hj 1 (by omega)
  obtain ⟨c2, r2⟩ := hj 2 (by omega)
  obtain ⟨c3, r3⟩ := hj 3 (by omega)
  obtain ⟨c4, r4⟩ := hj 4 (by omega)
  rw [LRule.d, LExpr.d_eq] at r0 r1 r2 r3 r4
  rw [RepD.str_cell r0 rfl] at c0
  rw [RepD.str_cell r1 rfl] at c1
  rw [RepD.str_cell r2 rfl] at c2
  rw [RepD.str_cell r3 rfl] at c3
  exact ⟨b, off, ha, hA, c0, c1, c2, c3, c4, by simpa using r4⟩
theorem RepD.kinds {xs : List LKind} (h : RepD A w (.slice 2 (xs.map LKind.d)) v) :
    ∃ a c, ∃ us : Nat → Value, v = .slice a xs.length c ∧ xs.length ≤ c ∧ xs.length ≤ 140737488355328 ∧ ∀ k (hk : k < xs.length), ∃ b off, a = some ⟨b, off, none⟩ ∧ A b ∧
      w.cell? ⟨b, off + k * 2, none⟩ = some (.string xs[k].name) ∧ w.cell? ⟨b, off + k * 2 + 1, none⟩ = some (us k) ∧ RepD A w (.slice 5 (xs[k].rules.map LRule.d)) (us k) := by
  obtain ⟨a, c, us, hv, hc, hl, hk⟩ := h.rows
  refine ⟨a, c, fun k => us k 1, hv, hc, hl, fun k hlt => ?_⟩
  obtain ⟨b, off, ha, hA, hj⟩ := hk k hlt
  obtain ⟨c0, r0⟩ := hj 0 (by omega)
  obtain ⟨c1, r1⟩ := hj 1 (by omega)
  rw [RepD.str_cell r0 rfl] at c0
  exact ⟨b, off, ha, hA, c0, c1, by simpa [LKind.d] using r1⟩
theorem RepD.trees {xs : List LTree} (h : RepD A w (.slice 3 (xs.map LTree.d)) v) :
    ∃ a c, ∃ us ps : Nat → Value, v = .slice a xs.length c ∧ xs.length ≤ c ∧ xs.length ≤ 140737488355328 ∧ ∀ k (hk : k < xs.length), ∃ b off, a = some ⟨b, off, none⟩ ∧ A b ∧
      w.cell? ⟨b, off + k * 3, none⟩ = some (.string xs[k].op) ∧ w.cell? ⟨b, off + k * 3 + 1, none⟩ = some (us k) ∧ w.cell? ⟨b, off + k * 3 + 2, none⟩ = some (ps k) ∧
      RepD A w (.slice 3 (xs[k].users.map LUser.d)) (us k) ∧ RepD A w (.slice 3 (xs[k].parts.map LTree.d)) (ps k) := by
  obtain ⟨a, c, us, hv, hc, hl, hk⟩ := h.rows
  refine ⟨a, c, fun k => us k 1, fun k => us k 2, hv, hc, hl, fun k hlt => ?_⟩
  obtain ⟨b, off, ha, hA, hj⟩ := hk k hlt
  obtain ⟨c0, r0⟩ := hj 0 (by omega)
  obtain ⟨c1, r1⟩ := hj 1 (by omega)
  obtain ⟨c2, r2⟩ := hj 2 (by omega)
  rw [LTree.d_eq] at r0 r1 r2
  rw [RepD.str_cell r0 rfl] at c0
  exact ⟨b, off, ha, hA, c0, c1, c2, by simpa using r1, by simpa using r2⟩
end
end Go.Proofs.YtnfkjodiielidaaGreatDoor

/- How a tree grows: an expression's tree. -/
import Derived.Test.YtnfkjodiielidaaGreatDoorWgrow0
import Derived.Deep.RegionHeld3
namespace Go.Proofs.YtnfkjodiielidaaGreatDoor
set_option linter.unusedVariables false
set_option linter.unusedSimpArgs false
open Go.RowKit

theorem setCell_far {w : World} {g o b j : Nat} {v : Value} (h : b ≠ g) : (w.setCell ⟨g, o, none⟩ v).cell? ⟨b, j, none⟩ = w.cell? ⟨b, j, none⟩ := World.cell?_of_block (w := w) (setCells_other g b h [v] o w)
theorem word_yes {a b : ByteArray} (h : a = b) : (a.toList == b.toList) = true ∧ (a.toList = b.toList) = True := by subst h; simp
/-- The boxes of a call of expr. -/
structure ExB (W0 W : World) (e : LExpr) (ua : Option Addr) (uc : Nat) (o : LUser) : Prop where
  es : W.cell? ⟨W0.heap.size, 0, none⟩ = some (.string e.op) ∧ W.cell? ⟨W0.heap.size, 1, none⟩ = some (.string e.name) ∧ W.cell? ⟨W0.heap.size, 2, none⟩ = some (.string e.of) ∧ W.cell? ⟨W0.heap.size, 3, none⟩ = some (.slice ua e.parts.length uc)
  os : W.cell? ⟨W0.heap.size + 1, 0, none⟩ = some (.string o.kind) ∧ W.cell? ⟨W0.heap.size + 1, 1, none⟩ = some (.string o.id) ∧ W.cell? ⟨W0.heap.size + 1, 2, none⟩ = some (.string o.rel)
  rs : W.heap[W0.heap.size + 1 + 1]? = some (.cells #[.string ⟨#[]⟩, .slice none 0 0, .slice none 0 0] 32)
theorem ExB.fr {M : Nat → Prop} {W0 W W' : World} {e : LExpr} {ua : Option Addr} {uc : Nat} {o : LUser} (h : ExB W0 W e ua uc o) (hF : Fr M W W') (h0 : ¬ M W0.heap.size) (h1 : ¬ M (W0.heap.size + 1)) (h2 : ¬ M (W0.heap.size + 1 + 1)) : ExB W0 W' e ua uc o := by
  have l0 := World.block_lt_of_cell? _ _ h.es.1
  have l1 := World.block_lt_of_cell? _ _ h.os.1
  have l2 := (Array.getElem?_eq_some_iff.1 h.rs).1
  have hc0 : ∀ j, W'.cell? ⟨W0.heap.size, j, none⟩ = W.cell? ⟨W0.heap.size, j, none⟩ := fun j => hF.cell l0 h0
  have hc1 : ∀ j, W'.cell? ⟨W0.heap.size + 1, j, none⟩ = W.cell? ⟨W0.heap.size + 1, j, none⟩ := fun j => hF.cell l1 h1
  refine ⟨?_, ?_, (hF.block _ l2 h2).trans h.rs⟩
  · simp only [hc0]; exact h.es
  · simp only [hc1]; exact h.os
/-- The result's cell, filled. -/
theorem res_fill {W0 W : World} {e : LExpr} {ua : Option Addr} {uc : Nat} {o : LUser} (h : ExB W0 W e ua uc o) (r : TRow) :
    (W.setCells (W0.heap.size + 1 + 1) 0 r.cells).heap[W0.heap.size + 1 + 1]? = some (.cells #[.string r.op, .slice r.us.a r.us.n r.us.c, .slice r.ps.a r.ps.n r.ps.c] 32) :=
  setCells_block _ _ _ r.cells 0 W _ h.rs
theorem ex_done {W w2 : World} {e : LExpr} {ua : Option Addr} {uc : Nat} {o : LUser} {gb fb mb : Nat} {ul : Value} {l : List LKind} {S : List LTuple} {left left0 left' : Int} {T : LTree} {row : TRow}
    (hst : GrSt W gb fb mb ul l S left0) (hF : Fr (fun k => k = gb) W w2) (hS : GrSt w2 gb fb mb ul l S left') (hT : OutT (fun b => W.heap.size + 1 + 1 + 1 ≤ b) w2 T left left' row) :
    Fr (fun k => k = gb) W (w2.setCells (W.heap.size + 1 + 1) 0 row.cells) ∧ GrSt (w2.setCells (W.heap.size + 1 + 1) 0 row.cells) gb fb mb ul l S left' ∧ OutT (fun b => W.heap.size ≤ b) (w2.setCells (W.heap.size + 1 + 1) 0 row.cells) T left left' row := by
  have hFr := fr_setCells (g := W.heap.size + 1 + 1) row.cells 0 w2
  have hgW := hst.lt
  have hF3 : Fr (fun k => k = gb) W (w2.setCells (W.heap.size + 1 + 1) 0 row.cells) := hF.next hFr (fun i hi hm => by omega)
  refine ⟨hF3, hst.move hS hFr (by omega) hF3, ?_⟩
  rcases hT with ⟨g1, g2, g3⟩ | h
  · exact .inl ⟨g1, g2, (g3.keep fun b hb hlt => hFr.block b hlt (by omega)).mono fun b hb _ => by omega⟩
  · exact .inr h
/-- Where expr stands behind its switch: the tree's box, its users. -/
structure TrSt (W Wn : World) (e : LExpr) (ua : Option Addr) (uc : Nat) (o : LUser) (gb fb mb : Nat) (ul : Value) (l : List LKind) (S : List LTuple) (lk : Int) (op : ByteArray) (us : SlV) (Us : List LUser) (ps : SlV) (X : Nat) : Prop where
  gr : GrSt Wn gb fb mb ul l S lk
  ex : ExB W Wn e ua uc o
  fr : Fr (fun k => k = gb) W Wn
  tb : Wn.heap[W.heap.size + 1 + 1 + 1]? = some (.cells #[.string op, .slice us.a us.n us.c, .slice ps.a ps.n ps.c] 32)
  us : RepD (fun b => W.heap.size + 1 + 1 + 1 + 1 ≤ b ∧ b < X) Wn (.slice 3 (Us.map LUser.d)) (.slice us.a us.n us.c)
  xlo : W.heap.size + 1 + 1 + 1 + 1 ≤ X
  xhi : X ≤ Wn.heap.size
section
variable {W Wn Wm : World} {e : LExpr} {ua : Option Addr} {uc : Nat} {o : LUser} {gb fb mb : Nat} {ul : Value} {l : List LKind} {S : List LTuple} {lk lk' : Int} {op : ByteArray} {us : SlV} {Us : List LUser} {ps : SlV} {X : Nat}
theorem TrSt.size (h : TrSt W Wn e ua uc o gb fb mb ul l S lk op us Us ps X) : W.heap.size + 1 + 1 + 1 + 1 ≤ Wn.heap.size := (Array.getElem?_eq_some_iff.1 h.tb).1
theorem TrSt.grown (h : TrSt W Wn e ua uc o gb fb mb ul l S lk op us Us ps X) (hgb : gb < W.heap.size) (hF : Fr (fun k => k = gb) Wn Wm) (hS : GrSt Wm gb fb mb ul l S lk') : TrSt W Wm e ua uc o gb fb mb ul l S lk' op us Us ps X :=
  ⟨hS, h.ex.fr hF (by omega) (by omega) (by omega), h.fr.trans hF, (hF.block _ h.size (by omega)).trans h.tb, h.us.fr hF (fun b hb e => by omega), h.xlo, Nat.le_trans h.xhi hF.size⟩
theorem TrSt.next (h : TrSt W Wn e ua uc o gb fb mb ul l S lk op us Us ps X) (hgb : gb < W.heap.size) (hb : Below Wn.heap.size Wn Wm) : TrSt W Wm e ua uc o gb fb mb ul l S lk op us Us ps X := h.grown hgb (Fr.of_below hb) (h.gr.next hb)
theorem TrSt.cells (h : TrSt W Wn e ua uc o gb fb mb ul l S lk op us Us ps X) : (Wn.cell? ⟨W.heap.size + 1 + 1 + 1, 0, none⟩ = some (.string op) ∧ Wn.cell? ⟨W.heap.size + 1 + 1 + 1, 1, none⟩ = some (.slice us.a us.n us.c) ∧ Wn.cell? ⟨W.heap.size + 1 + 1 + 1, 2, none⟩ = some (.slice ps.a ps.n ps.c)) ∧ ∀ j, Wn.frozen? ⟨W.heap.size + 1 + 1 + 1, j, none⟩ = false := by
  have hb := h.tb
  refine ⟨⟨?_, ?_, ?_⟩, fun j => ?_⟩ <;> simp [World.cell?, World.frozen?, hb]
/-- A cell of the tree's box is written. -/
theorem TrSt.put (h : TrSt W Wn e ua uc o gb fb mb ul l S lk op us Us ps X) (hst : GrSt W gb fb mb ul l S lk') (vs : List Value) (i : Nat) {op' : ByteArray} {us' ps' : SlV} {Us' : List LUser} (hset : Go.Sort.setMany #[.string op, .slice us.a us.n us.c, .slice ps.a ps.n ps.c] i vs = #[.string op', .slice us'.a us'.n us'.c, .slice ps'.a ps'.n ps'.c])
    (hus : RepD (fun b => W.heap.size + 1 + 1 + 1 + 1 ≤ b ∧ b < X) Wn (.slice 3 (Us'.map LUser.d)) (.slice us'.a us'.n us'.c)) : TrSt W (Wn.setCells (W.heap.size + 1 + 1 + 1) i vs) e ua uc o gb fb mb ul l S lk op' us' Us' ps' X := by
  have hF := fr_setCells (g := W.heap.size + 1 + 1 + 1) vs i Wn
  have hgb := hst.lt
  have hF2 : Fr (fun k => k = gb) W (Wn.setCells (W.heap.size + 1 + 1 + 1) i vs) := h.fr.next hF (fun i hi hm => by omega)
  have hb := setCells_block _ _ _ vs i Wn _ h.tb
  rw [hset] at hb
  exact ⟨hst.move h.gr hF (by omega) hF2, h.ex.fr hF (by omega) (by omega) (by omega), hF2, hb, hus.fr hF (fun b hb e => by omega), h.xlo, Nat.le_trans h.xhi hF.size⟩
/-- Beside the trees' own row. -/
theorem TrSt.own (h : TrSt W Wn e ua uc o gb fb mb ul l S lk op us Us ps X) (hst : GrSt W gb fb mb ul l S lk') {M : Nat → Prop} (hF : Fr M Wn Wm) (hM : ∀ b, M b → X ≤ b) : TrSt W Wm e ua uc o gb fb mb ul l S lk op us Us ps X := by
  have hgb := hst.lt
  have hlo := h.xlo
  have hF2 : Fr (fun k => k = gb) W Wm := h.fr.next hF (fun i hi hm => by have := hM i hm; omega)
  exact ⟨hst.move h.gr hF (fun hm => by have := hM _ hm; omega) hF2, h.ex.fr hF (fun hm => by have := hM _ hm; omega) (fun hm => by have := hM _ hm; omega) (fun hm => by have := hM _ hm; omega), hF2, (hF.block _ h.size (fun hm => by have := hM _ hm; omega)).trans h.tb, h.us.fr hF (fun b hb hm => by have := hM _ hm; omega), h.xlo, Nat.le_trans h.xhi hF.size⟩
end
theorem OutL.keep {A : Nat → Prop} {W W' : World} {ts : List LTree} {a b : Int} {rs : List TRow} (h : OutL A W ts a b rs) (hw : ∀ b, A b → b < W.heap.size → W'.heap[b]? = W.heap[b]?) : OutL A W' ts a b rs := by
  rcases h with ⟨h1, h2, h3⟩ | h
  · exact .inl ⟨h1, h2, h3.keep hw⟩
  · exact .inr h
theorem OutL.mono {A A' : Nat → Prop} {W : World} {ts : List LTree} {a b : Int} {rs : List TRow} (h : OutL A W ts a b rs) (hA : ∀ b, A b → b < W.heap.size → A' b) : OutL A' W ts a b rs := by
  rcases h with ⟨h1, h2, h3⟩ | h
  · exact .inl ⟨h1, h2, h3.mono hA⟩
  · exact .inr h
theorem OutT.keep {A : Nat → Prop} {W W' : World} {t : LTree} {a b : Int} {r : TRow} (h : OutT A W t a b r) (hw : ∀ b, A b → b < W.heap.size → W'.heap[b]? = W.heap[b]?) : OutT A W' t a b r := by
  rcases h with ⟨h1, h2, h3⟩ | h
  · exact .inl ⟨h1, h2, h3.keep hw⟩
  · exact .inr h
theorem OutT.mono {A A' : Nat → Prop} {W : World} {t : LTree} {a b : Int} {r : TRow} (h : OutT A W t a b r) (hA : ∀ b, A b → b < W.heap.size → A' b) : OutT A' W t a b r := by
  rcases h with ⟨h1, h2, h3⟩ | h
  · exact .inl ⟨h1, h2, h3.mono hA⟩
  · exact .inr h
set_option maxRecDepth 100000 in
set_option maxHeartbeats 1000000 in
theorem expr1 (u : LUser) (W : World) : Calls Tryz.prog 133 #[u.val] W fun e W' => e = .returned (.bool (decide (u.rel = sEmpty))) ∧ Below W.heap.size W W' := by
  have he := empty_iff u.rel
  have hd : decide (u.rel = sEmpty) = decide (u.rel.size = 0) := by
    rw [Bool.eq_iff_iff, decide_eq_true_eq, decide_eq_true_eq]
    constructor
    · intro h; rw [h]; rfl
    · intro h
      refine bytes_toList_inj ?_
      rw [(toList_nil_iff u.rel).2 h]
      simp [sEmpty]
  rw [hd]
  generalize decide (u.rel.size = 0) = r at *
  unfold LUser.val
  go_enter Tryz.func133, Tryz.ntmps133
  go_wp2
  go_ret
  exact ⟨rfl, (Below.refl _ W).alloc (Nat.le_refl _) _⟩
/-- What expr makes of an expression, where it is called. -/
def ExprGoal (l : List LKind) (S : List LTuple) (gb fb mb : Nat) (ul : Value) (d : Nat) (e : LExpr) (W : World) (left : Int) (o : LUser) (u : Value) : Prop :=
  Calls Tryz.prog 91 #[.pointer (some ⟨gb, 0, none⟩), exprVal e u, .agg #[.string o.kind, .string o.id, .string o.rel], .int .i64 ((d : Int) + 1)] W fun r W' => ∃ row left', r = .returned row.val ∧ Fr (fun k => k = gb) W W' ∧ GrSt W' gb fb mb ul l S left' ∧ OutT (fun b => W.heap.size ≤ b) W' (growE (growT l S d) S o e) left left' row
def ExprOk (l : List LKind) (S : List LTuple) (gb fb mb : Nat) (ul : Value) (d : Nat) (e : LExpr) : Prop :=
  ∀ (W : World) (left : Int) (o : LUser) (u : Value), 0 ≤ left → left ≤ 1000000000000 → GrSt W gb fb mb ul l S left → RepD (fun b => b ≠ gb) W (.slice 4 (e.parts.map LExpr.d)) u → ExprGoal l S gb fb mb ul d e W left o u
set_option maxRecDepth 100000 in
set_option maxHeartbeats 8000000 in
theorem expr_rel {l : List LKind} {S : List LTuple} {gb fb mb : Nat} {ul : Value} {d : Nat} (hd : d ≤ 1000) (hS : S.length ≤ 1000000) (hg : Grown l S gb fb mb ul d) (e : LExpr) (hsl : e.slim = true) (ih2 : ∀ x, x ∈ e.parts → ExprOk l S gb fb mb ul d x) (c1 : e.op = sRel) (W : World) (left : Int) (o : LUser) (u : Value) (h0 : 0 ≤ left) (hle : left ≤ 1000000000000) (hst : GrSt W gb fb mb ul l S left) (hu : RepD (fun b => b ≠ gb) W (.slice 4 (e.parts.map LExpr.d)) u) : ExprGoal l S gb fb mb ul d e W left o u := by
  unfold ExprGoal
  have hm := LExpr.slim_len hsl
  obtain ⟨ua, uc, hf⟩ := hu.formM
  subst hf
  generalize hw0 : ((W.alloc (.cells #[.string e.op, .string e.name, .string e.of, .slice ua e.parts.length uc] 42)).alloc (.cells #[.string o.kind, .string o.id, .string o.rel] 25)).alloc (.cells #[.string ⟨#[]⟩, .slice none 0 0, .slice none 0 0] 32) = w0
  have hsz0 : w0.heap.size = W.heap.size + 1 + 1 + 1 := by rw [← hw0]; simp
  have hB0 : Below W.heap.size W w0 := by rw [← hw0]; exact (((Below.refl _ W).alloc (Nat.le_refl _) _).alloc (by simp) _).alloc (by simp; omega) _
  have hX : ExB W w0 e ua uc o := by
    have a0 : w0.heap[W.heap.size]? = some (.cells #[.string e.op, .string e.name, .string e.of, .slice ua e.parts.length uc] 42) := by rw [← hw0]; exact (Below.heap_alloc _ _ _ (by simp; omega)).trans ((Below.heap_alloc _ _ _ (by simp)).trans (heap_alloc_at rfl))
    have a1 : w0.heap[W.heap.size + 1]? = some (.cells #[.string o.kind, .string o.id, .string o.rel] 25) := by rw [← hw0]; exact (Below.heap_alloc _ _ _ (by simp)).trans (heap_alloc_at (by simp))
    have a2 : w0.heap[W.heap.size + 1 + 1]? = some (.cells #[.string ⟨#[]⟩, .slice none 0 0, .slice none 0 0] 32) := by rw [← hw0]; exact heap_alloc_at (by simp)
    refine ⟨⟨?_, ?_, ?_, ?_⟩, ⟨?_, ?_, ?_⟩, a2⟩ <;> simp [World.cell?, a0, a1]
  have hst0 := hst.next hB0
  have hgW := hst.lt
  obtain ⟨l1, l2, l3, l4, l5, l6, _⟩ := word_lists
  have hge := growE_eq (growT l S d) S o e
  generalize hT : growE (growT l S d) S o e = T at *
  have HG := Lib.hid hg; have HST := Lib.hid hst; have HST0 := Lib.hid hst0; have HX := Lib.hid hX; have HB0 := Lib.hid hB0; have HU := Lib.hid hu; have HIH := Lib.hid ih2
  clear hg hst hst0 hX hu ih2 hB0 hT
  unfold exprVal
  rw [if_pos c1] at hge
  subst hge
  have hcall := HG.out ⟨o.kind, o.id, e.name⟩ w0 left h0 hle HST0.out
  have HC := Lib.hid hcall
  clear hcall
  obtain ⟨x0, x1, x2, x3⟩ := HX.out.es
  obtain ⟨y0, y1, y2⟩ := HX.out.os
  obtain ⟨a1, b1⟩ := word_yes c1
  rw [l2] at a1 b1
  clear c1
  go_enter Tryz.func91, Tryz.ntmps91
  go_wp2_with fail
  refine HC.out.mono ?_
  rintro r w2 ⟨row, left', rfl, hF2, hS2, hT2⟩
  have hX2 := HX.out.fr hF2 (by omega) (by omega) (by omega)
  have hrs := hX2.rs
  have b0 : w2.cell? ⟨W.heap.size + 1 + 1, 0, none⟩ = some (.string ⟨#[]⟩) := by simp [World.cell?, hrs]
  have b1 : w2.cell? ⟨W.heap.size + 1 + 1, 1, none⟩ = some (.slice none 0 0) := by simp [World.cell?, hrs]
  have b2 : w2.cell? ⟨W.heap.size + 1 + 1, 2, none⟩ = some (.slice none 0 0) := by simp [World.cell?, hrs]
  have fz : ∀ j, w2.frozen? ⟨W.heap.size + 1 + 1, j, none⟩ = false := fun j => by simp [World.frozen?, hrs]
  have HF2 := Lib.hid hF2; have HS2 := Lib.hid hS2; have HT2 := Lib.hid hT2; have HX2 := Lib.hid hX2
  clear hF2 hS2 hT2 hX2 hrs
  unfold TRow.val
  go_wp2
  have hdone := ex_done (e := e) (ua := ua) (uc := uc) (o := o) HST.out ((Fr.of_below HB0.out).trans HF2.out) HS2.out (T := growT l S d ⟨o.kind, o.id, e.name⟩) (left := left) (row := row) (by
    rcases HT2.out with ⟨g1, g2, g3⟩ | h
    · exact .inl ⟨g1, g2, g3.mono fun b hb _ => by omega⟩
    · exact .inr h)
  exact bodyPost_ret (v := row.val) (by simp [results, Tryz.results91, go_sem, b0, b1, b2, TRow.val]) rfl ⟨row, left', rfl, hdone.1, hdone.2.1, hdone.2.2⟩
set_option maxRecDepth 100000 in
set_option maxHeartbeats 8000000 in
theorem expr_zero {l : List LKind} {S : List LTuple} {gb fb mb : Nat} {ul : Value} {d : Nat} (hd : d ≤ 1000) (hS : S.length ≤ 1000000) (hg : Grown l S gb fb mb ul d) (e : LExpr) (hsl : e.slim = true) (ih2 : ∀ x, x ∈ e.parts → ExprOk l S gb fb mb ul d x) (c1 : ¬ e.op = sRel) (W : World) (left : Int) (o : LUser) (u : Value) (hz : left = 0) (h0 : 0 ≤ left) (hle : left ≤ 1000000000000) (hst : GrSt W gb fb mb ul l S left) (hu : RepD (fun b => b ≠ gb) W (.slice 4 (e.parts.map LExpr.d)) u) : ExprGoal l S gb fb mb ul d e W left o u := by
  unfold ExprGoal
  have hm := LExpr.slim_len hsl
  obtain ⟨ua, uc, hf⟩ := hu.formM
  subst hf
  generalize hw0 : ((W.alloc (.cells #[.string e.op, .string e.name, .string e.of, .slice ua e.parts.length uc] 42)).alloc (.cells #[.string o.kind, .string o.id, .string o.rel] 25)).alloc (.cells #[.string ⟨#[]⟩, .slice none 0 0, .slice none 0 0] 32) = w0
  have hsz0 : w0.heap.size = W.heap.size + 1 + 1 + 1 := by rw [← hw0]; simp
  have hB0 : Below W.heap.size W w0 := by rw [← hw0]; exact (((Below.refl _ W).alloc (Nat.le_refl _) _).alloc (by simp) _).alloc (by simp; omega) _
  have hX : ExB W w0 e ua uc o := by
    have a0 : w0.heap[W.heap.size]? = some (.cells #[.string e.op, .string e.name, .string e.of, .slice ua e.parts.length uc] 42) := by rw [← hw0]; exact (Below.heap_alloc _ _ _ (by simp; omega)).trans ((Below.heap_alloc _ _ _ (by simp)).trans (heap_alloc_at rfl))
    have a1 : w0.heap[W.heap.size + 1]? = some (.cells #[.string o.kind, .string o.id, .string o.rel] 25) := by rw [← hw0]; exact (Below.heap_alloc _ _ _ (by simp)).trans (heap_alloc_at (by simp))
    have a2 : w0.heap[W.heap.size + 1 + 1]? = some (.cells #[.string ⟨#[]⟩, .slice none 0 0, .slice none 0 0] 32) := by rw [← hw0]; exact heap_alloc_at (by simp)
    refine ⟨⟨?_, ?_, ?_, ?_⟩, ⟨?_, ?_, ?_⟩, a2⟩ <;> simp [World.cell?, a0, a1]
  have hst0 := hst.next hB0
  have hgW := hst.lt
  obtain ⟨l1, l2, l3, l4, l5, l6, _⟩ := word_lists
  have hge := growE_eq (growT l S d) S o e
  generalize hT : growE (growT l S d) S o e = T at *
  have HG := Lib.hid hg; have HST := Lib.hid hst; have HST0 := Lib.hid hst0; have HX := Lib.hid hX; have HB0 := Lib.hid hB0; have HU := Lib.hid hu; have HIH := Lib.hid ih2
  clear hg hst hst0 hX hu ih2 hB0 hT
  unfold exprVal
  rw [if_neg c1] at hge
  obtain ⟨a1, b1⟩ := word_no c1
  rw [l2] at a1 b1
  obtain ⟨x0, x1, x2, x3⟩ := HX.out.es
  obtain ⟨y0, y1, y2⟩ := HX.out.os
  have g0 := HST0.out.c0
  have g1 := HST0.out.c1
  have g2 := HST0.out.c2
  have gz := HST0.out.fz
  obtain ⟨hS1, hF1⟩ := HST0.out.less (left - 1)
  have hX1 := HX.out.fr hF1 (by omega) (by omega) (by omega)
  have hgn : gb ≠ W.heap.size ∧ gb ≠ W.heap.size + 1 ∧ gb ≠ W.heap.size + 1 + 1 := by omega
  have HS1 := Lib.hid hS1; have HF1 := Lib.hid hF1; have HX1 := Lib.hid hX1
  clear hS1 hF1 hX1
  have hrs := HX.out.rs
  have r0 : w0.cell? ⟨W.heap.size + 1 + 1, 0, none⟩ = some (.string ⟨#[]⟩) := by simp [World.cell?, hrs]
  have r1 : w0.cell? ⟨W.heap.size + 1 + 1, 1, none⟩ = some (.slice none 0 0) := by simp [World.cell?, hrs]
  have r2 : w0.cell? ⟨W.heap.size + 1 + 1, 2, none⟩ = some (.slice none 0 0) := by simp [World.cell?, hrs]
  have rz : ∀ j, w0.frozen? ⟨W.heap.size + 1 + 1, j, none⟩ = false := fun j => by simp [World.frozen?, hrs]
  clear hrs
  have hFW1 : Fr (fun k => k = gb) W (w0.setCell ⟨gb, 2, none⟩ (.int .i64 (left - 1))) := (Fr.of_below HB0.out).trans HF1.out
  have HFW1 := Lib.hid hFW1
  clear hFW1
  subst hz
  have hdone := ex_done (e := e) (ua := ua) (uc := uc) (o := o) (row := ⟨⟨#[]⟩, ⟨none, 0, 0⟩, ⟨none, 0, 0⟩⟩) HST.out HFW1.out HS1.out (T := T) (left := 0) (.inr ⟨by have := natSize_pos T; omega, by omega⟩)
  have HDN := Lib.hid hdone
  clear hdone
  go_enter Tryz.func91, Tryz.ntmps91
  go_wp2
  exact bodyPost_ret (v := TRow.val ⟨⟨#[]⟩, ⟨none, 0, 0⟩, ⟨none, 0, 0⟩⟩) (by simp [results, Tryz.results91, go_sem, r0, r1, r2, TRow.val, hgn.2.2, hgn.2.2.symm]) rfl ⟨_, _, rfl, HDN.out.1, HDN.out.2.1, HDN.out.2.2⟩
end Go.Proofs.YtnfkjodiielidaaGreatDoor

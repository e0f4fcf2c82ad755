/- Expressions: size, depth, form, a copy. -/
/- An expression copied. -/
/- Rules: where a relation is, which expression is found; names. -/
import Derived.Test.YtnfkjodiielidaaGreatDoorOrd
import Derived.Test.YtnfkjodiielidaaGreatDoorWidx
import Derived.Test.YtnfkjodiielidaaGreatDoorWname
namespace Go.Proofs.YtnfkjodiielidaaGreatDoor
set_option linter.unusedVariables false
set_option linter.unusedSimpArgs false
open Go.RowKit

def exprVal (e : LExpr) (u : Value) : Value := .agg #[.string e.op, .string e.name, .string e.of, u]

set_option maxRecDepth 100000 in
set_option maxHeartbeats 400000 in
theorem rule_Size (A : Nat → Prop) (e : LExpr) : ∀ (w : World) (u : Value), RepD A w (.slice 4 (e.parts.map LExpr.d)) u →
    Calls Tryz.prog 81 #[exprVal e u] w fun r w' => r = .returned (.int .i64 e.size) ∧ Below w.heap.size w w' := by
  induction e using LExpr.ind with
  | h e ih =>
  intro w u hu
  obtain ⟨a, c, us, rfl, _, hlen, hk⟩ := hu.exprs
  rw [LExpr.size_eq]
  have HI := Lib.hid ih; clear ih
  generalize hps : e.parts = ps at *
  clear hps
  have HK := Lib.hid hk; clear hk
  generalize hss : ps.map LExpr.size = ss
  have HS := Lib.hid hss; clear hss
  clear hu
  unfold exprVal at *
  go_enter Tryz.func81, Tryz.ntmps81
  go_wp2
  go_loopw [3, 5, 9] (fun n _ i wr => ∃ k : Nat, k ≤ ps.length ∧ i = .int .i64 k ∧ n = .int .i64 ((ss.take k).foldl (fun n k => wrap64 (n + k)) 1) ∧ Below w.heap.size w wr) (fun _ _ i _ => ps.length - (intOf i).toNat)
  case atStart => exact ⟨0, Nat.zero_le _, rfl, rfl, (Below.refl _ w).alloc (Nat.le_refl _) _⟩
  case round =>
    obtain ⟨k, hk, rfl, rfl, hb⟩ := hrel
    by_cases hlt : k < ps.length
    · obtain ⟨b, off, rfl, hA, e0, e1, e2, e3, hr⟩ := HK.out k hlt
      have hbl : b < w.heap.size := World.block_lt_of_cell? w _ e0
      rw [← hb.cell (by exact hbl)] at e0 e1 e2 e3
      obtain ⟨ua, uc, hu⟩ := hr.formM
      generalize us k = U at *
      subst hu
      have HR := Lib.hid hr; clear hr
      go_wp2_with fail
      have hb2 := hb.alloc hb.size (.cells #[.string ps[k].op, .string ps[k].name, .string ps[k].of, .slice ua ps[k].parts.length uc] 42)
      refine (HI.out ps[k] (by simp) _ _ (HR.out.old hb2)).mono ?_
      rintro r w1 ⟨rfl, hb1⟩
      go_wp2
      go_roundw
      case rel =>
        refine ⟨k + 1, by omega, by go_num, ?_, below_past hb2 hb1⟩
        rw [List.take_succ_eq_append_getElem (by rw [← HS.out]; simpa using hlt)]
        simp [← HS.out]
      case measure => simp [intOf]; omega
    · go_wp2
      go_ret
      refine ⟨ret_int ?_, hb⟩
      rw [List.take_of_length_le (by rw [← HS.out]; simp; omega)]

set_option maxRecDepth 100000 in
set_option maxHeartbeats 400000 in
theorem rule_Deep (A : Nat → Prop) (e : LExpr) : ∀ (w : World) (u : Value), RepD A w (.slice 4 (e.parts.map LExpr.d)) u →
    Calls Tryz.prog 82 #[exprVal e u] w fun r w' => r = .returned (.int .i64 e.deep) ∧ Below w.heap.size w w' := by
  induction e using LExpr.ind with
  | h e ih =>
  intro w u hu
  obtain ⟨a, c, us, rfl, _, hlen, hk⟩ := hu.exprs
  rw [LExpr.deep_eq]
  have HI := Lib.hid ih; clear ih
  generalize hps : e.parts = ps at *
  clear hps
  have HK := Lib.hid hk; clear hk
  generalize hss : ps.map LExpr.deep = ss
  have HS := Lib.hid hss; clear hss
  clear hu
  unfold exprVal at *
  go_enter Tryz.func82, Tryz.ntmps82
  go_wp2
  go_loopw [3, 5, 9] (fun n _ i wr => ∃ k : Nat, k ≤ ps.length ∧ i = .int .i64 k ∧ n = .int .i64 ((ss.take k).foldl (fun n k => if n < k then k else n) 0) ∧ Below w.heap.size w wr) (fun _ _ i _ => ps.length - (intOf i).toNat)
  case atStart => exact ⟨0, Nat.zero_le _, rfl, rfl, (Below.refl _ w).alloc (Nat.le_refl _) _⟩
  case round =>
    obtain ⟨k, hk, rfl, rfl, hb⟩ := hrel
    by_cases hlt : k < ps.length
    · obtain ⟨b, off, rfl, hA, e0, e1, e2, e3, hr⟩ := HK.out k hlt
      have hbl : b < w.heap.size := World.block_lt_of_cell? w _ e0
      rw [← hb.cell (by exact hbl)] at e0 e1 e2 e3
      obtain ⟨ua, uc, hu⟩ := hr.formM
      generalize us k = U at *
      subst hu
      have HR := Lib.hid hr; clear hr
      have hstep : (ss.take (k + 1)).foldl (fun n k => if n < k then k else n) (0 : Int) = if (ss.take k).foldl (fun n k => if n < k then k else n) (0 : Int) < ps[k].deep then ps[k].deep else (ss.take k).foldl (fun n k => if n < k then k else n) (0 : Int) := by
        rw [List.take_succ_eq_append_getElem (by rw [← HS.out]; simpa using hlt)]
        simp [← HS.out]
      have HT := Lib.hid hstep; clear hstep
      generalize (ss.take k).foldl (fun n k => if n < k then k else n) (0 : Int) = acc at *
      go_wp2_with fail
      have hb2 := hb.alloc hb.size (.cells #[.string ps[k].op, .string ps[k].name, .string ps[k].of, .slice ua ps[k].parts.length uc] 42)
      refine (HI.out ps[k] (by simp) _ _ (HR.out.old hb2)).mono ?_
      rintro r w1 ⟨rfl, hb1⟩
      go_wp2
      exact ⟨⟨k + 1, by omega, by go_num, by rw [HT.out], below_past hb2 hb1⟩, by simp [intOf]; omega⟩
    · go_wp2
      go_ret
      refine ⟨ret_int ?_, hb⟩
      rw [List.take_of_length_le (by rw [← HS.out]; simp; omega)]
end Go.Proofs.YtnfkjodiielidaaGreatDoor
namespace Go.Proofs.YtnfkjodiielidaaGreatDoor
set_option linter.unusedVariables false
set_option linter.unusedSimpArgs false
open Go.RowKit

structure SlV where
  a : Option Addr
  n : Nat
  c : Nat
def SlV.val (s : SlV) : Value := .slice s.a s.n s.c
def exprCells (p : LExpr × SlV) : List Value := [.string p.1.op, .string p.1.name, .string p.1.of, .slice p.2.a p.2.n p.2.c]
theorem exprCells_len (p : LExpr × SlV) : (exprCells p).length = 4 := rfl
theorem exprCells_one (p : LExpr × SlV) : ∀ v ∈ exprCells p, v.oneCell' = true := by intro v hv; simp [exprCells] at hv; rcases hv with rfl | rfl | rfl | rfl <;> rfl
theorem info_expr : (Tryz.prog.info? 42).map (fun i => (i.zero, i.size, i.bytes)) = some (some (.agg #[.string ⟨#[]⟩, .string ⟨#[]⟩, .string ⟨#[]⟩, .slice none 0 0]), 4, 72) := by kernel_rfl
/-- A slice of expressions of the call's own, as data. -/
theorem OwnL.exprs {A : Nat → Prop} {w : World} {base e : Nat} {v : Value} {xs : List (LExpr × SlV)} (h : OwnL w base e 4 exprCells v xs) (hr : ∀ p, p ∈ xs → RepD A w (.slice 4 (p.1.parts.map LExpr.d)) p.2.val)
    (hA : ∀ b, base ≤ b → v.ownBlock = some b → A b) (hl : xs.length ≤ 140737488355328) : RepD A w (.slice 4 ((xs.map (·.1)).map LExpr.d)) v := by
  have := h.reps exprCells_len (fun p => p.1.d) (fun x hx j hj => by
    rw [LExpr.d_eq]
    match j, hj with
    | 0, _ => exact .str _
    | 1, _ => exact .str _
    | 2, _ => exact .str _
    | 3, _ => exact hr x hx) hA hl
  rwa [List.map_map]

set_option maxRecDepth 100000 in
set_option maxHeartbeats 1000000 in
theorem rule_copied (A : Nat → Prop) (e : LExpr) : e.slim = true → ∀ (w : World) (u : Value), RepD A w (.slice 4 (e.parts.map LExpr.d)) u →
    Calls Tryz.prog 90 #[exprVal e u] w fun r w' => ∃ v, r = .returned (exprVal e v) ∧ RepD (fun b => w.heap.size ≤ b) w' (.slice 4 (e.parts.map LExpr.d)) v ∧ Below w.heap.size w w' := by
  induction e using LExpr.ind with
  | h e ih =>
  intro hsl w u hu
  obtain ⟨a, c, us, rfl, _, hlen, hk⟩ := hu.exprs
  have ih2 : ∀ x, x ∈ e.parts → ∀ (w : World) (u : Value), RepD A w (.slice 4 (x.parts.map LExpr.d)) u → Calls Tryz.prog 90 #[exprVal x u] w fun r w' => ∃ v, r = .returned (exprVal x v) ∧ RepD (fun b => w.heap.size ≤ b) w' (.slice 4 (x.parts.map LExpr.d)) v ∧ Below w.heap.size w w' := fun x hx => ih x hx (LExpr.slim_part hsl hx)
  have hm := LExpr.slim_len hsl
  have HI := Lib.hid ih2; clear ih ih2 hsl
  generalize hps : e.parts = ps at *
  clear hps
  have HK := Lib.hid hk; clear hk
  clear hu
  unfold exprVal at *
  go_enter Tryz.func90, Tryz.ntmps90
  go_wp2
  generalize hW0 : (w.alloc (.cells #[.string e.op, .string e.name, .string e.of, .slice a ps.length c] 42)).alloc (.cells #[.string ⟨#[]⟩, .string ⟨#[]⟩, .string ⟨#[]⟩, .slice none 0 0] 42) = W0
  have hsz0 : W0.heap.size = w.heap.size + 2 := by rw [← hW0]; simp
  have hB0 : Below w.heap.size w W0 := by rw [← hW0]; exact ((Below.refl _ w).alloc (Nat.le_refl _) _).alloc (by simp) _
  have hce : W0.cell? ⟨w.heap.size, 0, none⟩ = some (.string e.op) ∧ W0.cell? ⟨w.heap.size, 1, none⟩ = some (.string e.name) ∧ W0.cell? ⟨w.heap.size, 2, none⟩ = some (.string e.of) ∧ W0.cell? ⟨w.heap.size, 3, none⟩ = some (.slice a ps.length c) := by rw [← hW0]; simp
  have hcr : W0.cell? ⟨w.heap.size + 1, 0, none⟩ = some (.string ⟨#[]⟩) ∧ W0.cell? ⟨w.heap.size + 1, 1, none⟩ = some (.string ⟨#[]⟩) ∧ W0.cell? ⟨w.heap.size + 1, 2, none⟩ = some (.string ⟨#[]⟩) ∧ W0.cell? ⟨w.heap.size + 1, 3, none⟩ = some (.slice none 0 0) := by rw [← hW0]; simp
  have hfe : W0.frozen? ⟨w.heap.size, 3, none⟩ = false := by rw [← hW0]; simp
  have hfr : ∀ j, W0.frozen? ⟨w.heap.size + 1, j, none⟩ = false := by intro j; rw [← hW0]; simp
  clear hW0
  have HSZ := Lib.hid hsz0; have HCE := Lib.hid hce; have HCR := Lib.hid hcr; have HFE := Lib.hid hfe; have HFR := Lib.hid hfr
  clear hsz0 hce hcr hfe hfr
  go_loopw [3, 5, 9] (fun l _ i wr => ∃ (k : Nat) (L : List (LExpr × SlV)), k ≤ ps.length ∧ i = .int .i64 k ∧ Aside (L.map (·.1) = ps.take k) ∧ Aside (OwnL wr (w.heap.size + 2) 42 4 exprCells l L) ∧
      Aside (∀ p, p ∈ L → RepD (fun b => w.heap.size + 2 ≤ b ∧ l.ownBlock ≠ some b) wr (.slice 4 (p.1.parts.map LExpr.d)) p.2.val) ∧ Below (w.heap.size + 2) W0 wr) (fun _ _ i _ => ps.length - (intOf i).toNat)
  case atStart => exact ⟨0, [], Nat.zero_le _, rfl, ⟨rfl⟩, ⟨OwnL.nil _ _ _ _ _⟩, ⟨fun p hp => by cases hp⟩, Below.refl _ _⟩
  case round =>
    obtain ⟨k, L, hk, rfl, hL, hO, hR, hb⟩ := hrel
    have hold : Below w.heap.size w wr := hB0.trans (hb.mono (by omega))
    have hws : w.heap.size + 2 ≤ wr.heap.size := by have := hb.size; rw [HSZ.out] at this; exact this
    by_cases hlt : k < ps.length
    · obtain ⟨b, off, rfl, hA, e0, e1, e2, e3, hr⟩ := HK.out k hlt
      have hbl : b < w.heap.size := World.block_lt_of_cell? w _ e0
      rw [← hold.cell (by exact hbl)] at e0 e1 e2 e3
      obtain ⟨ua, uc, hu⟩ := hr.formM
      generalize us k = U at *
      subst hu
      have HR := Lib.hid hr; clear hr
      have hLl : L.length = k := by have := congrArg List.length hL.out; simp at this; omega
      have HLl := Lib.hid hLl
      have hlb : (L.length + 1) * 72 ≤ 140737488355328 := by omega
      clear hLl
      go_wp2_with fail
      have hb2 : Below wr.heap.size wr (wr.alloc (.cells #[.string ps[k].op, .string ps[k].name, .string ps[k].of, .slice ua ps[k].parts.length uc] 42)) := (Below.refl _ _).alloc (Nat.le_refl _) _
      refine (HI.out ps[k] (by simp) _ _ (HR.out.old (below_past hold hb2))).mono ?_
      rintro r w1 ⟨v1, rfl, hr1, hb1⟩
      have hb3 := below_past hb2 hb1
      obtain ⟨va, vc, hv1⟩ := hr1.formM
      subst hv1
      have HR1 := Lib.hid hr1
      have HO1 := Lib.hid (hO.out.below hb3)
      have hs1 : w.heap.size + 2 ≤ w1.heap.size := Nat.le_trans hws hb3.size
      clear hr1
      go_wp2_with (at_builtin; refine wpList_app (w.heap.size + 2) rfl _ _ _ 42 _ 4 72 rfl Tryz.underlying40 info_expr rfl (by omega) (by omega) exprCells exprCells_len exprCells_one u3 L (ps[k], ⟨va, ps[k].parts.length, vc⟩) rfl rfl rfl HO1.out hs1 hlb ?_; intro v2 w2 hO2 hB2 hF2)
      refine ⟨⟨k + 1, _, by omega, by go_num, ⟨?_⟩, ⟨hO2⟩, ⟨?_⟩, hb.trans (((hb3.mono hws)).trans hB2)⟩, by simp [intOf]; omega⟩
      · rw [List.map_append, hL.out, List.take_succ_eq_append_getElem hlt]; rfl
      · intro p hp
        rcases List.mem_append.1 hp with hp | hp
        · have h1 := hR.out p hp
          have h2 : RepD (fun b => (w.heap.size + 2 ≤ b ∧ u3.ownBlock ≠ some b) ∧ b < wr.heap.size) wr (.slice 4 (p.1.parts.map LExpr.d)) p.2.val := h1.mono fun b hb hlt => ⟨hb, hlt⟩
          have h3 := (h2.old hb3).fr hF2.1 (fun b hb e => hb.1.2 e)
          refine h3.mono fun b hb _ => ⟨hb.1.1, fun e => ?_⟩
          rcases hF2.2 b e with e1 | e1
          · exact hb.1.2 e1
          · have := hb3.size; omega
        · simp at hp
          subst hp
          have h1 := HR1.out
          have h3 : RepD (fun b => wr.heap.size + 1 ≤ b ∧ b < w1.heap.size) w1 (.slice 4 (ps[k].parts.map LExpr.d)) (.slice va ps[k].parts.length vc) := h1.mono fun b hb hlt => ⟨by simpa using hb, hlt⟩
          have h4 := h3.fr hF2.1 (fun b hb e => by have := (HO1.out.block b e).2; have := (hO.out.block b e).2; omega)
          refine h4.mono fun b hb _ => ⟨by omega, fun e => ?_⟩
          rcases hF2.2 b e with e1 | e1
          · have := (hO.out.block b e1).2; omega
          · omega
    · have hkk : k = ps.length := by omega
      have hLL : L.map (·.1) = ps := by rw [hL.out, hkk, List.take_of_length_le (Nat.le_refl _)]
      have hLl : L.length ≤ 140737488355328 := by have := congrArg List.length hLL; simp at this; omega
      have hrep := hO.out.exprs (A := fun b => w.heap.size + 2 ≤ b) (fun p hp => (hR.out p hp).mono fun b hb _ => hb.1) (fun b hb _ => hb) hLl
      rw [hLL] at hrep
      obtain ⟨a', c', rfl, _⟩ := hO.out.form
      have hlen2 : L.length = ps.length := by rw [← hLL]; simp
      have HRep := Lib.hid hrep
      clear hrep hR hL hO hLl hkk hLL
      have hx0 : ∀ j, wr.cell? ⟨w.heap.size, j, none⟩ = W0.cell? ⟨w.heap.size, j, none⟩ := fun j => hb.cell (p := ⟨w.heap.size, j, none⟩) (by show w.heap.size < _; omega)
      have hx1 : ∀ j, wr.cell? ⟨w.heap.size + 1, j, none⟩ = W0.cell? ⟨w.heap.size + 1, j, none⟩ := fun j => hb.cell (p := ⟨w.heap.size + 1, j, none⟩) (by show w.heap.size + 1 < _; omega)
      have hf0 : wr.frozen? ⟨w.heap.size, 3, none⟩ = false := (hb.frozen (p := ⟨w.heap.size, 3, none⟩) (by show w.heap.size < _; omega)).trans HFE.out
      have hf1 : ∀ j, wr.frozen? ⟨w.heap.size + 1, j, none⟩ = false := fun j => (hb.frozen (p := ⟨w.heap.size + 1, j, none⟩) (by show w.heap.size + 1 < _; omega)).trans (HFR.out j)
      obtain ⟨a0, a1, a2, a3⟩ := HCE.out
      obtain ⟨b0, b1, b2, b3⟩ := HCR.out
      go_wp2
      have hlt1 : w.heap.size + 1 < wr.heap.size := by omega
      refine bodyPost_ret (v := .agg #[.string e.op, .string e.name, .string e.of, .slice a' ps.length c']) (by simp [results, Tryz.results90, go_sem, b0, b1, b2, b3, hx1]) rfl ⟨_, rfl, ?_, ?_⟩
      · have h1 := HRep.out
        rw [hlen2] at h1
        refine (h1.keep fun b hb _ => ?_).mono fun b hb _ => by omega
        rw [Below.heap_setCell _ _ _ b (by show b ≠ w.heap.size + 1; omega), Below.heap_setCell _ _ _ b (by show b ≠ w.heap.size + 1; omega), Below.heap_setCell _ _ _ b (by show b ≠ w.heap.size + 1; omega), Below.heap_setCell _ _ _ b (by show b ≠ w.heap.size + 1; omega), Below.heap_setCell _ _ _ b (by show b ≠ w.heap.size; omega)]
      · exact ((((hold.setCell (by simp) _).setCell (by simp) _).setCell (by simp) _).setCell (by simp) _).setCell (by simp) _
end Go.Proofs.YtnfkjodiielidaaGreatDoor
namespace Go.Proofs.YtnfkjodiielidaaGreatDoor
set_option linter.unusedVariables false
set_option linter.unusedSimpArgs false
open Go.RowKit

def exprCs (xs : List LExpr) (us : Nat → Value) (k : Nat) : Nat → Value
  | 0 => .string (xs.getD k e0).op
  | 1 => .string (xs.getD k e0).name
  | 2 => .string (xs.getD k e0).of
  | _ => us k
def ruleCs (xs : List LRule) (us : Nat → Value) (k : Nat) : Nat → Value
  | 0 => .string (xs.getD k r0).rel
  | 1 => .string (xs.getD k r0).expr.op
  | 2 => .string (xs.getD k r0).expr.name
  | 3 => .string (xs.getD k r0).expr.of
  | _ => us k
def kindCs (xs : List LKind) (us : Nat → Value) (k : Nat) : Nat → Value
  | 0 => .string (xs.getD k k0).name
  | _ => us k
theorem getD_at {α : Type} {xs : List α} {k : Nat} {d : α} (h : k < xs.length) : xs.getD k d = xs[k] := by simp [List.getD_eq_getElem?_getD, h]
section
variable {A : Nat → Prop} {w : World} {v : Value}
theorem RepD.exprsCs {xs : List LExpr} (h : RepD A w (.slice 4 (xs.map LExpr.d)) v) : ∃ a c us, v = .slice a xs.length c ∧ xs.length ≤ 140737488355328 ∧
    (∀ k, k < xs.length → ∃ b off, a = some ⟨b, off, none⟩ ∧ w.cell? ⟨b, off + k * 4, none⟩ = some (exprCs xs us k 0) ∧ w.cell? ⟨b, off + k * 4 + 1, none⟩ = some (exprCs xs us k 1) ∧ w.cell? ⟨b, off + k * 4 + 2, none⟩ = some (exprCs xs us k 2) ∧ w.cell? ⟨b, off + k * 4 + 3, none⟩ = some (exprCs xs us k 3)) ∧
    ∀ k, k < xs.length → RepD A w (.slice 4 ((xs.getD k e0).parts.map LExpr.d)) (us k) := by
  obtain ⟨a, c, us, hv, _, hl, hk⟩ := h.exprs
  refine ⟨a, c, us, hv, hl, fun k hlt => ?_, fun k hlt => ?_⟩
  · obtain ⟨b, off, ha, _, c0, c1, c2, c3, _⟩ := hk k hlt
    refine ⟨b, off, ha, ?_, ?_, ?_, c3⟩ <;> (simp only [exprCs, getD_at hlt]; assumption)
  · obtain ⟨b, off, ha, _, c0, c1, c2, c3, hr⟩ := hk k hlt
    rw [getD_at hlt]; exact hr
theorem RepD.rulesCs {xs : List LRule} (h : RepD A w (.slice 5 (xs.map LRule.d)) v) : ∃ a c us, v = .slice a xs.length c ∧ xs.length ≤ 140737488355328 ∧
    (∀ k, k < xs.length → ∃ b off, a = some ⟨b, off, none⟩ ∧ w.cell? ⟨b, off + k * 5, none⟩ = some (ruleCs xs us k 0) ∧ w.cell? ⟨b, off + k * 5 + 1, none⟩ = some (ruleCs xs us k 1) ∧ w.cell? ⟨b, off + k * 5 + 2, none⟩ = some (ruleCs xs us k 2) ∧ w.cell? ⟨b, off + k * 5 + 3, none⟩ = some (ruleCs xs us k 3) ∧ w.cell? ⟨b, off + k * 5 + 4, none⟩ = some (ruleCs xs us k 4)) ∧
    ∀ k, k < xs.length → RepD A w (.slice 4 ((xs.getD k r0).expr.parts.map LExpr.d)) (us k) := by
  obtain ⟨a, c, us, hv, _, hl, hk⟩ := h.rules
  refine ⟨a, c, us, hv, hl, fun k hlt => ?_, fun k hlt => ?_⟩
  · obtain ⟨b, off, ha, _, c0, c1, c2, c3, c4, _⟩ := hk k hlt
    refine ⟨b, off, ha, ?_, ?_, ?_, ?_, c4⟩ <;> (simp only [ruleCs, getD_at hlt]; assumption)
  · obtain ⟨b, off, ha, _, c0, c1, c2, c3, c4, hr⟩ := hk k hlt
    rw [getD_at hlt]; exact hr
theorem RepD.kindsCs {xs : List LKind} (h : RepD A w (.slice 2 (xs.map LKind.d)) v) : ∃ a c us, v = .slice a xs.length c ∧ xs.length ≤ 140737488355328 ∧
    (∀ k, k < xs.length → ∃ b off, a = some ⟨b, off, none⟩ ∧ w.cell? ⟨b, off + k * 2, none⟩ = some (kindCs xs us k 0) ∧ w.cell? ⟨b, off + k * 2 + 1, none⟩ = some (kindCs xs us k 1)) ∧
    ∀ k, k < xs.length → RepD A w (.slice 5 ((xs.getD k k0).rules.map LRule.d)) (us k) := by
  obtain ⟨a, c, us, hv, _, hl, hk⟩ := h.kinds
  refine ⟨a, c, us, hv, hl, fun k hlt => ?_, fun k hlt => ?_⟩
  · obtain ⟨b, off, ha, _, c0, c1, _⟩ := hk k hlt
    refine ⟨b, off, ha, ?_, c1⟩
    simp only [kindCs, getD_at hlt]; assumption
  · obtain ⟨b, off, ha, _, c0, c1, hr⟩ := hk k hlt
    rw [getD_at hlt]; exact hr
end

/-- Where a kind has a relation; below 0: nowhere. -/
def hasI (rs : List LRule) (rel : ByteArray) : Int := firstP (fun j => decide ((rs.getD j r0).rel = rel)) rs.length
/-- Where a kind is. -/
def kindI (l : List LKind) (kind : ByteArray) : Int := firstP (fun j => decide ((l.getD j k0).name = kind)) l.length

set_option maxRecDepth 100000 in
set_option maxHeartbeats 1000000 in
theorem has1 (a o n f : ByteArray) (sa : Option Addr) (sn sc : Nat) (rel : ByteArray) (B : Nat) (W : World) (hB : B < W.heap.size) (hc : W.cell? ⟨B, 0, none⟩ = some (.string rel)) :
    Calls Tryz.prog 129 #[.agg #[.string a, .string o, .string n, .string f, .slice sa sn sc], .pointer (some ⟨B, 0, none⟩)] W fun e W' => e = .returned (.bool (decide (a = rel))) ∧ Below W.heap.size W W' := by
  have e := toList_beq a rel
  generalize decide (a = rel) = b at *
  go_enter Tryz.func129, Tryz.ntmps129
  go_wp2
  go_ret
  exact ⟨rfl, (Below.refl _ W).alloc (Nat.le_refl _) _⟩
set_option maxRecDepth 100000 in
set_option maxHeartbeats 1000000 in
theorem rule_has {A : Nat → Prop} (name : ByteArray) (rs : List LRule) (u : Value) (rel : ByteArray) (w : World) (hu : RepD A w (.slice 5 (rs.map LRule.d)) u) :
    Calls Tryz.prog 89 #[.agg #[.string name, u], .string rel] w fun e w' => e = .returned (.int .i64 (hasI rs rel)) ∧ Below w.heap.size w w' := by
  obtain ⟨a, c, us, rfl, hl, hk, hr⟩ := hu.rulesCs
  have hB : Below w.heap.size w ((w.alloc (.cells #[.string name, .slice a rs.length c] 78)).alloc (.cells #[.string rel] 9)) := ((Below.refl _ w).alloc (Nat.le_refl _) _).alloc (by simp) _
  have hcon := indexFunc_Rule a rs.length c (ruleCs rs us) ((w.alloc (.cells #[.string name, .slice a rs.length c] 78)).alloc (.cells #[.string rel] 9)) hl
    (fun k hlt => by
      obtain ⟨b, off, ha, h⟩ := hk k hlt
      have hbl : b < w.heap.size := World.block_lt_of_cell? w _ h.1
      refine ⟨b, off, ha, ?_⟩
      have hc : ∀ o, _ := fun o => hB.cell (p := ⟨b, o, none⟩) hbl
      simp only [hc]; exact h)
    129 #[.pointer (some ⟨w.heap.size + 1, 0, none⟩)] (fun j => decide ((rs.getD j r0).rel = rel))
    (fun k hlt W hW => by
      obtain ⟨ua, uc, hf⟩ := (hr k hlt).formM
      show Calls Tryz.prog _ (#[.agg #[.string (rs.getD k r0).rel, .string (rs.getD k r0).expr.op, .string (rs.getD k r0).expr.name, .string (rs.getD k r0).expr.of, us k], .pointer (some ⟨w.heap.size + 1, 0, none⟩)]) W _
      rw [hf]
      exact has1 _ _ _ _ ua _ uc rel (w.heap.size + 1) W (by have := hW.size; simp at this; omega) ((hW.cell (p := ⟨w.heap.size + 1, 0, none⟩) (by simp)).trans (by go_simp)))
    (enters_of Tryz.func129 (by kernel_rfl) rfl)
  change Calls Tryz.prog _ _ _ fun e w' => e = .returned (.int .i64 (hasI rs rel)) ∧ _ at hcon
  generalize hasI rs rel = r at *
  have HC := Lib.hid hcon; clear hcon hk hr hu
  go_enter Tryz.func89, Tryz.ntmps89
  go_wp2_with fail
  refine HC.out.mono ?_
  rintro e w1 ⟨rfl, hb1⟩
  go_wp2
  go_ret
  exact ⟨rfl, below_past hB hb1⟩
end Go.Proofs.YtnfkjodiielidaaGreatDoor

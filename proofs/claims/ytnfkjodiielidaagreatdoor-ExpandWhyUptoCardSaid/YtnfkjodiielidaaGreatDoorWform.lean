/- Rules: whether an expression has a form; whether something holds of all its parts. -/
-- needs rule.all
/- Rules: whether something holds of an expression and all its parts; of all rules of all kinds. -/
-- needs rule.each
/- Rules: whether something holds of all rules of all kinds. -/
-- needs rule.name
/- Rules: which texts may be names. -/
import Derived.Test.YtnfkjodiielidaaGreatDoorWrule0
import Derived.Test.YtnfkjodiielidaaGreatDoorPcheck
namespace Go.Proofs.YtnfkjodiielidaaGreatDoor
set_option linter.unusedVariables false
set_option linter.unusedSimpArgs false
open Go.RowKit

theorem word_no {a b : ByteArray} (h : a ≠ b) : (a.toList == b.toList) = false ∧ (a.toList = b.toList) = False := ⟨toList_ne h, by simp; exact fun e => h (bytes_toList_inj e)⟩
theorem word_lists : sThis.toList = [116, 104, 105, 115] ∧ sRel.toList = [114, 101, 108] ∧ sFrom.toList = [102, 114, 111, 109] ∧ sOr.toList = [111, 114] ∧ sAnd.toList = [97, 110, 100] ∧ sBut.toList = [98, 117, 116] ∧ sNone.toList = [110, 111, 110, 101] := by decide +kernel
set_option maxRecDepth 100000 in
set_option maxHeartbeats 4000000 in
theorem rule_form (e : LExpr) (a : Option Addr) (c : Nat) (w : World) : Calls Tryz.prog 85 #[exprVal e (.slice a e.parts.length c)] w fun r w' => r = .returned (.bool (formB e)) ∧ Below w.heap.size w w' := by
  have hB : Below w.heap.size w (w.alloc (.cells #[.string e.op, .string e.name, .string e.of, .slice a e.parts.length c] 42)) := (Below.refl _ w).alloc (Nat.le_refl _) _
  obtain ⟨l1, l2, l3, l4, l5, l6, _⟩ := word_lists
  have hf : formB e = if e.op = sThis then decide (e.name.size = 0) && decide (e.of.size = 0) && decide (e.parts.length = 0)
      else if e.op = sRel then decide (e.of.size = 0) && decide (e.parts.length = 0)
      else if e.op = sFrom then decide (e.parts.length = 0)
      else if e.op = sOr ∨ e.op = sAnd then decide (e.name.size = 0) && decide (e.of.size = 0) && decide (2 ≤ e.parts.length)
      else if e.op = sBut then decide (e.name.size = 0) && decide (e.of.size = 0) && decide (e.parts.length = 2)
      else false := rfl
  generalize formB e = r at *
  unfold exprVal
  have hn1 := empty_iff e.name
  have hn2 := empty_iff e.of
  generalize e.parts.length = n at *
  generalize e.op = o at *
  generalize e.name = nm at *
  generalize e.of = f at *
  clear e
  have HB := Lib.hid hB
  clear hB
  by_cases h1 : o = sThis
  · rw [if_pos h1] at hf
    subst h1
    generalize hE1 : decide (nm.size = 0) = E1 at *
    generalize hE2 : decide (f.size = 0) = E2 at *
    clear hE1 hE2
    cases E1 <;> cases E2
    all_goals
      simp only [Bool.and_false, Bool.false_and, Bool.true_and, Bool.and_true] at hf
      have HF := Lib.hid hf
      clear hf
      go_enter Tryz.func85, Tryz.ntmps85
      go_wp2
      go_ret
      exact ⟨ret_bool (by rw [HF.out]; first | done | rfl | (rw [Bool.eq_iff_iff]; simp only [decide_eq_true_eq, beq_iff_eq]; omega)), HB.out⟩
  rw [if_neg h1] at hf
  obtain ⟨a1, b1⟩ := word_no h1
  rw [l1] at a1 b1
  clear h1
  by_cases h2 : o = sRel
  · rw [if_pos h2] at hf
    subst h2
    generalize hE2 : decide (f.size = 0) = E2 at *
    clear hE2
    cases E2
    all_goals
      simp only [Bool.and_false, Bool.false_and, Bool.true_and, Bool.and_true] at hf
      have HF := Lib.hid hf
      clear hf
      go_enter Tryz.func85, Tryz.ntmps85
      go_wp2
      go_ret
      exact ⟨ret_bool (by rw [HF.out]; first | done | rfl | (rw [Bool.eq_iff_iff]; simp only [decide_eq_true_eq, beq_iff_eq]; omega)), HB.out⟩
  rw [if_neg h2] at hf
  obtain ⟨a2, b2⟩ := word_no h2
  rw [l2] at a2 b2
  clear h2
  by_cases h3 : o = sFrom
  · rw [if_pos h3] at hf
    subst h3
    have HF := Lib.hid hf
    clear hf
    go_enter Tryz.func85, Tryz.ntmps85
    go_wp2
    go_ret
    exact ⟨ret_bool (by rw [HF.out]; first | done | rfl | (rw [Bool.eq_iff_iff]; simp only [decide_eq_true_eq, beq_iff_eq]; omega)), HB.out⟩
  rw [if_neg h3] at hf
  obtain ⟨a3, b3⟩ := word_no h3
  rw [l3] at a3 b3
  clear h3
  by_cases h4 : o = sOr
  · rw [if_pos (.inl h4)] at hf
    subst h4
    generalize hE1 : decide (nm.size = 0) = E1 at *
    generalize hE2 : decide (f.size = 0) = E2 at *
    clear hE1 hE2
    cases E1 <;> cases E2
    all_goals
      simp only [Bool.and_false, Bool.false_and, Bool.true_and, Bool.and_true] at hf
      have HF := Lib.hid hf
      clear hf
      go_enter Tryz.func85, Tryz.ntmps85
      go_wp2
      go_ret
      exact ⟨ret_bool (by rw [HF.out]; first | done | rfl | (rw [Bool.eq_iff_iff]; simp only [decide_eq_true_eq, beq_iff_eq]; omega)), HB.out⟩
  by_cases h5 : o = sAnd
  · rw [if_pos (.inr h5)] at hf
    subst h5
    generalize hE1 : decide (nm.size = 0) = E1 at *
    generalize hE2 : decide (f.size = 0) = E2 at *
    clear hE1 hE2
    cases E1 <;> cases E2
    all_goals
      simp only [Bool.and_false, Bool.false_and, Bool.true_and, Bool.and_true] at hf
      have HF := Lib.hid hf
      clear hf
      go_enter Tryz.func85, Tryz.ntmps85
      go_wp2
      go_ret
      exact ⟨ret_bool (by rw [HF.out]; first | done | rfl | (rw [Bool.eq_iff_iff]; simp only [decide_eq_true_eq, beq_iff_eq]; omega)), HB.out⟩
  rw [if_neg (fun h => h.elim h4 h5)] at hf
  obtain ⟨a4, b4⟩ := word_no h4
  rw [l4] at a4 b4
  obtain ⟨a5, b5⟩ := word_no h5
  rw [l5] at a5 b5
  clear h4 h5
  by_cases h6 : o = sBut
  · rw [if_pos h6] at hf
    subst h6
    generalize hE1 : decide (nm.size = 0) = E1 at *
    generalize hE2 : decide (f.size = 0) = E2 at *
    clear hE1 hE2
    cases E1 <;> cases E2
    all_goals
      simp only [Bool.and_false, Bool.false_and, Bool.true_and, Bool.and_true] at hf
      have HF := Lib.hid hf
      clear hf
      go_enter Tryz.func85, Tryz.ntmps85
      go_wp2
      go_ret
      exact ⟨ret_bool (by rw [HF.out]; first | done | rfl | (rw [Bool.eq_iff_iff]; simp only [decide_eq_true_eq, beq_iff_eq]; omega)), HB.out⟩
  rw [if_neg h6] at hf
  obtain ⟨a6, b6⟩ := word_no h6
  rw [l6] at a6 b6
  clear h6
  have HF := Lib.hid hf
  clear hf
  go_enter Tryz.func85, Tryz.ntmps85
  go_wp2
  go_ret
  exact ⟨ret_bool (by rw [HF.out]; first | done | rfl | (rw [Bool.eq_iff_iff]; simp only [decide_eq_true_eq, beq_iff_eq]; omega)), HB.out⟩
end Go.Proofs.YtnfkjodiielidaaGreatDoor
namespace Go.Proofs.YtnfkjodiielidaaGreatDoor
set_option linter.unusedVariables false
set_option linter.unusedSimpArgs false
open Go.RowKit

/-- What a function value says of expressions, in every world that has grown out of w. -/
def SaysE (w : World) (g : Nat) (lb : Array Value) (q : LExpr → Bool) : Prop :=
  ∀ (x : LExpr) (u : Value) (W : World), Below w.heap.size w W → RepD (fun _ => True) W (.slice 4 (x.parts.map LExpr.d)) u → Calls Tryz.prog g (#[exprVal x u] ++ lb) W fun e W' => e = .returned (.bool (q x)) ∧ Below W.heap.size W W'
theorem SaysE.later {w w' : World} {g : Nat} {lb : Array Value} {q : LExpr → Bool} (h : SaysE w g lb q) (hb : Below w.heap.size w w') : SaysE w' g lb q := fun x u W hW hr => h x u W (below_past hb hW) hr
theorem range_any {α : Type} (xs : List α) (d : α) (p : α → Bool) : (List.range xs.length).any (fun j => p (xs.getD j d)) = xs.any p := by
  rw [Bool.eq_iff_iff, List.any_eq_true, List.any_eq_true]
  constructor
  · rintro ⟨j, hj, h⟩
    rw [List.mem_range] at hj
    rw [getD_at hj] at h
    exact ⟨_, List.getElem_mem hj, h⟩
  · rintro ⟨x, hx, h⟩
    obtain ⟨j, hj, rfl⟩ := List.mem_iff_getElem.1 hx
    exact ⟨j, List.mem_range.2 hj, by rw [getD_at hj]; exact h⟩
set_option maxRecDepth 100000 in
set_option maxHeartbeats 4000000 in
theorem ruleAll1 (x : LExpr) (r : Bool) (a : Option Addr) (c B : Nat) (g : Nat) (lb : Array Value) (W : World) (hB : B < W.heap.size) (hc : W.cell? ⟨B, 0, none⟩ = some (.func (.func g) #[] lb))
    (hall : ∀ W', Below W.heap.size W W' → Calls Tryz.prog 84 #[exprVal x (.slice a x.parts.length c), .func (.func g) #[] lb] W' fun e W2 => e = .returned (.bool r) ∧ Below W'.heap.size W' W2) :
    Calls Tryz.prog 123 #[exprVal x (.slice a x.parts.length c), .pointer (some ⟨B, 0, none⟩)] W fun e W' => e = .returned (.bool (!r)) ∧ Below W.heap.size W W' := by
  have hB0 : Below W.heap.size W (W.alloc (.cells #[.string x.op, .string x.name, .string x.of, .slice a x.parts.length c] 42)) := (Below.refl _ W).alloc (Nat.le_refl _) _
  have hcall := hall _ hB0
  unfold exprVal at *
  generalize x.parts.length = n at *
  have HC := Lib.hid hcall; have HB0 := Lib.hid hB0
  clear hall hcall hB0
  go_enter Tryz.func123, Tryz.ntmps123
  go_wp2_with fail
  refine HC.out.mono ?_
  rintro e W2 ⟨rfl, hb⟩
  go_wp2
  go_ret
  exact ⟨rfl, below_past HB0.out hb⟩
set_option maxRecDepth 100000 in
set_option maxHeartbeats 4000000 in
theorem rule_all (g : Nat) (lb : Array Value) (q : LExpr → Bool) (eg : ∀ args w, (callFunc g args).run Tryz.prog w = .ok (.enter g args) w) (e : LExpr) : ∀ (A : Nat → Prop) (w : World) (u : Value), RepD A w (.slice 4 (e.parts.map LExpr.d)) u → SaysE w g lb q →
    Calls Tryz.prog 84 #[exprVal e u, .func (.func g) #[] lb] w fun r w' => r = .returned (.bool (e.all q)) ∧ Below w.heap.size w w' := by
  induction e using LExpr.ind with
  | h e ih =>
  intro A w u hu hq
  obtain ⟨a, c, us, rfl, hl, hk, hr⟩ := hu.exprsCs
  rw [LExpr.all_eq]
  have hB0 : Below w.heap.size w ((w.alloc (.cells #[.string e.op, .string e.name, .string e.of, .slice a e.parts.length c] 42)).alloc (.cells #[.func (.func g) #[] lb] 94)) := ((Below.refl _ w).alloc (Nat.le_refl _) _).alloc (by simp) _
  have hq0 := hq e _ _ hB0 ((hu.mono fun _ _ _ => trivial).old hB0)
  have hcon := fun (W1 : World) (hW1 : Below (w.heap.size + 1 + 1) ((w.alloc (.cells #[.string e.op, .string e.name, .string e.of, .slice a e.parts.length c] 42)).alloc (.cells #[.func (.func g) #[] lb] 94)) W1) =>
    containsFunc_Expr a e.parts.length c (exprCs e.parts us) W1 hl
      (fun k hlt => by
        obtain ⟨b, off, ha, h⟩ := hk k hlt
        have hbl : b < w.heap.size := World.block_lt_of_cell? w _ h.1
        refine ⟨b, off, ha, ?_⟩
        have hBw : Below w.heap.size w W1 := hB0.trans (hW1.mono (by omega))
        have hc : ∀ o, _ := fun o => hBw.cell (p := ⟨b, o, none⟩) hbl
        simp only [hc]; exact h)
      123 #[.pointer (some ⟨w.heap.size + 1, 0, none⟩)] (fun j => !(e.parts.getD j e0).all q)
      (fun k hlt W hW => by
        obtain ⟨ua, uc, hf⟩ := (hr k hlt).formM
        have hBw : Below w.heap.size w W1 := hB0.trans (hW1.mono (by omega))
        have hBW : Below w.heap.size w W := below_past hBw hW
        have hsz1 := hW1.size
        have hbox : W.cell? ⟨w.heap.size + 1, 0, none⟩ = some (.func (.func g) #[] lb) := (hW.cell (p := ⟨w.heap.size + 1, 0, none⟩) (by simp at hsz1; show w.heap.size + 1 < _; omega)).trans ((hW1.cell (p := ⟨w.heap.size + 1, 0, none⟩) (by show w.heap.size + 1 < _; omega)).trans (by go_simp))
        show Calls Tryz.prog _ (#[.agg #[.string (e.parts.getD k e0).op, .string (e.parts.getD k e0).name, .string (e.parts.getD k e0).of, us k], .pointer (some ⟨w.heap.size + 1, 0, none⟩)]) W _
        have hrk := hr k hlt
        rw [hf] at hrk ⊢
        exact ruleAll1 (e.parts.getD k e0) ((e.parts.getD k e0).all q) ua uc (w.heap.size + 1) g lb W (World.block_lt_of_cell? _ _ hbox) hbox
          (fun W' hW' => ih _ (by rw [getD_at hlt]; exact List.getElem_mem hlt) _ W' _ (hrk.old (below_past hBW hW')) (hq.later (below_past hBW hW'))))
      (enters_of Tryz.func123 (by kernel_rfl) rfl)
  have hany := range_any e.parts e0 fun x => !x.all q
  simp only [hany] at hcon
  have hpa : (!(e.parts.any fun x => !x.all q)) = e.parts.all fun x => x.all q := by rw [List.all_eq_not_any_not]
  generalize hp : (e.parts.any fun x => !x.all q) = pa at *
  rw [← hpa]
  generalize e.parts.length = n at *
  generalize hqe : q e = qe at *
  unfold exprVal at *
  have HQ0 := Lib.hid hq0; have HCON := Lib.hid hcon; have HB0 := Lib.hid hB0
  clear hq0 hcon hB0 hpa hany hp hqe hq hk hr hu ih hl
  cases qe with
  | false =>
    go_enter Tryz.func84, Tryz.ntmps84
    go_wp2_with (go_at_fn g; refine HQ0.out.mono ?_; rintro e w1 ⟨rfl, hb1⟩; have HB1 := Lib.hid hb1; clear hb1)
    go_ret
    exact ⟨rfl, below_past HB0.out HB1.out⟩
  | true =>
    go_enter Tryz.func84, Tryz.ntmps84
    go_wp2_with fail
    go_at_fn g
    refine HQ0.out.mono ?_
    rintro e w1 ⟨rfl, hb1⟩
    have hcn := HCON.out w1 (hb1.mono (by simp))
    have HCN := Lib.hid hcn
    have HB1 := Lib.hid hb1
    obtain ⟨hc, hf⟩ := bcell hb1
    have hz := below_lt (n := w.heap.size) hb1 (by simp; omega)
    have hz1 := below_lt (n := w.heap.size + 1) hb1 (by simp)
    clear hcn hb1 HCON HQ0
    go_wp2_with fail
    refine HCN.out.mono ?_
    rintro e w2 ⟨rfl, hb2⟩
    go_wp2
    go_ret
    exact ⟨by first | rfl | simp, below_past (below_past HB0.out HB1.out) hb2⟩
end Go.Proofs.YtnfkjodiielidaaGreatDoor
namespace Go.Proofs.YtnfkjodiielidaaGreatDoor
set_option linter.unusedVariables false
set_option linter.unusedSimpArgs false
open Go.RowKit

def ruleVal (r : LRule) (u : Value) : Value := .agg #[.string r.rel, .string r.expr.op, .string r.expr.name, .string r.expr.of, u]
def kindVal (k : LKind) (u : Value) : Value := .agg #[.string k.name, u]
/-- What a function value says of a kind and a rule, in every world that has grown out of w. -/
def SaysKR (w : World) (g : Nat) (lb : Array Value) (q : LKind → LRule → Bool) : Prop :=
  ∀ (k : LKind) (r : LRule) (uk ur : Value) (W : World), Below w.heap.size w W → RepD (fun _ => True) W (.slice 5 (k.rules.map LRule.d)) uk → RepD (fun _ => True) W (.slice 4 (r.expr.parts.map LExpr.d)) ur →
    Calls Tryz.prog g (#[kindVal k uk, ruleVal r ur] ++ lb) W fun e W' => e = .returned (.bool (q k r)) ∧ Below W.heap.size W W'
theorem SaysKR.later {w w' : World} {g : Nat} {lb : Array Value} {q : LKind → LRule → Bool} (h : SaysKR w g lb q) (hb : Below w.heap.size w w') : SaysKR w' g lb q := fun k r uk ur W hW h1 h2 => h k r uk ur W (below_past hb hW) h1 h2
set_option maxRecDepth 100000 in
set_option maxHeartbeats 4000000 in
theorem ruleEach1 (k : LKind) (r : LRule) (x : Bool) (a a' : Option Addr) (n c n' c' B B' : Nat) (g : Nat) (lb : Array Value) (eg : ∀ args w, (callFunc g args).run Tryz.prog w = .ok (.enter g args) w) (W : World) (hB : B < W.heap.size) (hB' : B' < W.heap.size) (hc : W.cell? ⟨B, 0, none⟩ = some (.func (.func g) #[] lb))
    (hk0 : W.cell? ⟨B', 0, none⟩ = some (.string k.name)) (hk1 : W.cell? ⟨B', 1, none⟩ = some (.slice a n c))
    (hcall : ∀ W', Below W.heap.size W W' → Calls Tryz.prog g (#[kindVal k (.slice a n c), ruleVal r (.slice a' n' c')] ++ lb) W' fun e W2 => e = .returned (.bool x) ∧ Below W'.heap.size W' W2) :
    Calls Tryz.prog 121 #[ruleVal r (.slice a' n' c'), .pointer (some ⟨B, 0, none⟩), .pointer (some ⟨B', 0, none⟩)] W fun e W' => e = .returned (.bool (!x)) ∧ Below W.heap.size W W' := by
  have hB0 : Below W.heap.size W (W.alloc (.cells #[.string r.rel, .string r.expr.op, .string r.expr.name, .string r.expr.of, .slice a' n' c'] 75)) := (Below.refl _ W).alloc (Nat.le_refl _) _
  have hca := hcall _ hB0
  unfold ruleVal kindVal at *
  have HC := Lib.hid hca; have HB0 := Lib.hid hB0
  clear hca hcall hB0
  go_enter Tryz.func121, Tryz.ntmps121
  go_wp2_with fail
  go_at_fn g
  refine HC.out.mono ?_
  rintro e W2 ⟨rfl, hb⟩
  go_wp2
  go_ret
  exact ⟨rfl, below_past HB0.out hb⟩
set_option maxRecDepth 100000 in
set_option maxHeartbeats 4000000 in
theorem rule_each (g : Nat) (lb : Array Value) (q : LKind → LRule → Bool) (eg : ∀ args w, (callFunc g args).run Tryz.prog w = .ok (.enter g args) w) {A : Nat → Prop} {w : World} {l : List LKind} {u : Value} (hu : RepD A w (.slice 2 (l.map LKind.d)) u) (hq : SaysKR w g lb q) :
    Calls Tryz.prog 79 #[u, .func (.func g) #[] lb] w fun r w' => r = .returned (.bool (l.all fun k => k.rules.all fun r => q k r)) ∧ Below w.heap.size w w' := by
  obtain ⟨a, c, us, rfl, _, hl, hk⟩ := hu.kinds
  have HK := Lib.hid hk; have HQ := Lib.hid hq; clear hk hq hu
  have hend : (∀ j (hj : j < l.length), (l[j].rules.all fun r => q l[j] r) = true) → (l.all fun k => k.rules.all fun r => q k r) = true := by
    intro h
    rw [List.all_eq_true]
    intro k hk
    obtain ⟨j, hj, rfl⟩ := List.mem_iff_getElem.1 hk
    exact h j hj
  have hno : ∀ j (hj : j < l.length), (l[j].rules.all fun r => q l[j] r) = false → (l.all fun k => k.rules.all fun r => q k r) = false := by
    intro j hj h
    rw [List.all_eq_false]
    exact ⟨l[j], List.getElem_mem hj, by rw [h]; simp⟩
  generalize (l.all fun k => k.rules.all fun r => q k r) = res at *
  have HE := Lib.hid hend; have HN := Lib.hid hno
  clear hend hno
  have hbx : (w.alloc (.cells #[.func (.func g) #[] lb] 129)).cell? ⟨w.heap.size, 0, none⟩ = some (.func (.func g) #[] lb) := by go_simp
  have HBX := Lib.hid hbx; clear hbx
  go_enter Tryz.func79, Tryz.ntmps79
  go_wp2
  go_loopw [6, 9] (fun _ i wr => ∃ k : Nat, k ≤ l.length ∧ i = .int .i64 k ∧ Aside (Below (w.heap.size + 1) (w.alloc (.cells #[.func (.func g) #[] lb] 129)) wr) ∧ Aside (∀ j (hj : j < l.length), j < k → (l[j].rules.all fun r => q l[j] r) = true)) (fun _ i _ => l.length - (intOf i).toNat)
  case atStart => exact ⟨0, by omega, rfl, ⟨Below.refl _ _⟩, ⟨fun j hj h => by omega⟩⟩
  case round =>
    obtain ⟨k, hk, rfl, hB, hF⟩ := hrel
    have hBw : Below w.heap.size w wr := ((Below.refl _ w).alloc (Nat.le_refl _) _).trans (hB.out.mono (by omega))
    by_cases hlt : k < l.length
    · obtain ⟨b, off, rfl, _, e0, e1, hr⟩ := HK.out k hlt
      have hbl : b < w.heap.size := World.block_lt_of_cell? w _ e0
      rw [← hBw.cell (by exact hbl)] at e0 e1
      have hrr := hr.old hBw
      obtain ⟨ra, rc, rus, hrv, hrl, hrk, hrp⟩ := hrr.rulesCs
      rw [hrv] at e1 hrr
      have hsz := hB.out.size
      have hbox0 : wr.cell? ⟨w.heap.size, 0, none⟩ = some (.func (.func g) #[] lb) := (hB.out.cell (p := ⟨w.heap.size, 0, none⟩) (by show w.heap.size < _; omega)).trans HBX.out
      have hcon := containsFunc_Rule ra l[k].rules.length rc (ruleCs l[k].rules rus) (wr.alloc (.cells #[.string l[k].name, .slice ra l[k].rules.length rc] 78)) hrl
        (fun j hj => by
          obtain ⟨b2, off2, ha, h⟩ := hrk j hj
          have hbl2 : b2 < wr.heap.size := World.block_lt_of_cell? wr _ h.1
          refine ⟨b2, off2, ha, ?_⟩
          have hc : ∀ o, _ := fun o => ((Below.refl _ wr).alloc (Nat.le_refl _) (.cells #[.string l[k].name, .slice ra l[k].rules.length rc] 78)).cell (p := ⟨b2, o, none⟩) hbl2
          simp only [hc]; exact h)
        121 #[.pointer (some ⟨w.heap.size, 0, none⟩), .pointer (some ⟨wr.heap.size, 0, none⟩)] (fun j => !(q l[k] (l[k].rules.getD j r0)))
        (fun j hj W hW => by
          obtain ⟨ua, uc, hf⟩ := (hrp j hj).formM
          have hB1 : Below wr.heap.size wr W := below_past ((Below.refl _ wr).alloc (Nat.le_refl _) _) hW
          have hBW : Below w.heap.size w W := below_past hBw hB1
          have hbox : W.cell? ⟨w.heap.size, 0, none⟩ = some (.func (.func g) #[] lb) := (hB1.cell (p := ⟨w.heap.size, 0, none⟩) (by simp at hsz; show w.heap.size < _; omega)).trans hbox0
          have hk0 : W.cell? ⟨wr.heap.size, 0, none⟩ = some (.string l[k].name) := (hW.cell (p := ⟨wr.heap.size, 0, none⟩) (by simp)).trans (by go_simp)
          have hk1 : W.cell? ⟨wr.heap.size, 1, none⟩ = some (.slice ra l[k].rules.length rc) := (hW.cell (p := ⟨wr.heap.size, 1, none⟩) (by simp)).trans (by go_simp)
          show Calls Tryz.prog _ (#[.agg #[.string (l[k].rules.getD j r0).rel, .string (l[k].rules.getD j r0).expr.op, .string (l[k].rules.getD j r0).expr.name, .string (l[k].rules.getD j r0).expr.of, rus j], .pointer (some ⟨w.heap.size, 0, none⟩), .pointer (some ⟨wr.heap.size, 0, none⟩)]) W _
          have hrj := hrp j hj
          rw [hf] at hrj ⊢
          exact ruleEach1 l[k] (l[k].rules.getD j r0) (q l[k] (l[k].rules.getD j r0)) ra ua _ rc _ uc w.heap.size wr.heap.size g lb eg W (World.block_lt_of_cell? _ _ hbox) (World.block_lt_of_cell? _ _ hk0) hbox hk0 hk1
            (fun W' hW' => HQ.out l[k] (l[k].rules.getD j r0) _ _ W' (below_past hBW hW') ((hrr.mono fun _ _ _ => trivial).old (below_past hB1 hW')) ((hrj.mono fun _ _ _ => trivial).old (below_past hB1 hW'))))
        (enters_of Tryz.func121 (by kernel_rfl) rfl)
      have hany := range_any l[k].rules r0 fun r => !(q l[k] r)
      rw [hany] at hcon
      have hpa : (l[k].rules.any fun r => !(q l[k] r)) = !(l[k].rules.all fun r => q l[k] r) := by rw [List.all_eq_not_any_not, Bool.not_not]
      rw [hpa] at hcon
      have hnk := HN.out k hlt
      have hfk : (l[k].rules.all fun r => q l[k] r) = true → ∀ j (hj : j < l.length), j < k + 1 → (l[j].rules.all fun r => q l[j] r) = true := by
        intro h j hj hjk
        rcases Nat.lt_or_ge j k with h1 | h1
        · exact hF.out j hj h1
        · have : j = k := by omega
          subst this; exact h
      generalize (l[k].rules.all fun r => q l[k] r) = b at *
      have HCON := Lib.hid hcon; have HNK := Lib.hid hnk; have HFK := Lib.hid hfk; have HBW := Lib.hid hBw
      clear hcon hnk hfk hany hpa hrr hrk hrp hr hrv hF hBw hrl
      go_wp2_with fail
      refine HCON.out.mono ?_
      rintro e w2 ⟨rfl, hb2⟩
      have hB1 := below_past ((Below.refl _ wr).alloc (Nat.le_refl _) (.cells #[.string l[k].name, .slice ra l[k].rules.length rc] 78)) hb2
      cases b with
      | false =>
        have hf := HNK.out rfl
        have HF := Lib.hid hf
        clear hf
        go_wp2
        go_ret
        exact ⟨ret_bool HF.out.symm, below_past HBW.out hB1⟩
      | true =>
        have hf := HFK.out rfl
        have HF := Lib.hid hf
        clear hf
        go_wp2
        first
          | exact ⟨⟨k + 1, by omega, by go_num, ⟨hB.out.trans (hB1.mono hsz)⟩, ⟨HF.out⟩⟩, by simp [intOf] <;> omega⟩
          | (go_roundw
             case rel => exact ⟨k + 1, by omega, by go_num, ⟨hB.out.trans (hB1.mono (by simp at hsz; omega))⟩, ⟨HF.out⟩⟩
             case measure => simp [intOf]; omega)
    · have ht := HE.out fun j hj => hF.out j hj (by omega)
      have HT := Lib.hid ht
      clear ht
      go_wp2
      go_ret
      exact ⟨ret_bool HT.out.symm, hBw⟩
end Go.Proofs.YtnfkjodiielidaaGreatDoor
namespace Go.Proofs.YtnfkjodiielidaaGreatDoor
set_option linter.unusedVariables false
set_option linter.unusedSimpArgs false
open Go.RowKit

set_option maxRecDepth 100000 in
set_option maxHeartbeats 1000000 in
theorem slices_IndexS {A : Nat → Prop} {w : World} {xs : List ByteArray} {v : Value} (hv : RepD A w (.slice 1 (xs.map fun s => [.str s])) v) (s : ByteArray) :
    Calls Tryz.prog 184 #[v, .string s] w fun e w' => e = .returned (.int .i64 (firstP (fun j => decide (xs.getD j ⟨#[]⟩ = s)) xs.length)) ∧ w' = w := by
  obtain ⟨a, c, rfl, _, hl, hk⟩ := hv.strs
  have HK := Lib.hid hk; clear hk hv
  generalize hr : firstP (fun j => decide (xs.getD j ⟨#[]⟩ = s)) xs.length = r
  have HR := Lib.hid hr; clear hr
  go_enter Tryz.func184, Tryz.ntmps184
  go_wp2
  go_loopw [5, 8] (fun _ i wr => ∃ k : Nat, k ≤ xs.length ∧ i = .int .i64 k ∧ wr = w ∧ Aside (∀ j, j < k → decide (xs.getD j ⟨#[]⟩ = s) = false)) (fun _ i _ => xs.length - (intOf i).toNat)
  case atStart => exact ⟨0, by omega, rfl, rfl, ⟨fun j hj => by omega⟩⟩
  case round =>
    obtain ⟨k, hk, rfl, rfl, hF⟩ := hrel
    by_cases hlt : k < xs.length
    · obtain ⟨b, off, rfl, _, e0⟩ := HK.out k hlt
      have hgd : xs.getD k ⟨#[]⟩ = xs[k] := getD_at hlt
      by_cases hx : xs[k] = s
      · have hf : firstP (fun j => decide (xs.getD j ⟨#[]⟩ = s)) xs.length = k := firstP_some hlt (by rw [hgd]; simp [hx]) hF.out
        have hf2 : (k : Int) = r := by rw [← HR.out, hf]
        have HF := Lib.hid hf2
        clear hf hf2 hgd
        generalize xs[k] = z at *
        subst hx
        go_wp2
        go_ret
        exact ⟨ret_int HF.out, rfl⟩
      · have hf : ∀ j, j < k + 1 → decide (xs.getD j ⟨#[]⟩ = s) = false := by
          intro j hj
          rcases Nat.lt_or_ge j k with h1 | h1
          · exact hF.out j h1
          · have : j = k := by omega
            subst this
            rw [hgd]
            simp [hx]
        have HF := Lib.hid hf
        clear hf hgd
        generalize xs[k] = z at *
        have hne := toList_ne (fun e => hx e.symm : s ≠ z)
        have hne2 : (s.toList = z.toList) = False := by simp; exact fun e => hx (bytes_toList_inj e).symm
        go_wp2
        first
          | exact ⟨⟨k + 1, by omega, by go_num, trivial, ⟨HF.out⟩⟩, by simp [intOf] <;> omega⟩
          | (go_roundw
             case rel => exact ⟨k + 1, by omega, by go_num, rfl, ⟨HF.out⟩⟩
             case measure => simp [intOf]; omega)
    · have hf : firstP (fun j => decide (xs.getD j ⟨#[]⟩ = s)) xs.length = -1 := firstP_none fun j hj => hF.out j (by omega)
      have hf2 : (-1 : Int) = r := by rw [← HR.out, hf]
      have HF := Lib.hid hf2
      clear hf hf2
      go_wp2
      go_ret
      exact ⟨ret_int HF.out, rfl⟩
def memS (s : ByteArray) (xs : List ByteArray) : Bool := xs.any fun z => decide (z = s)
set_option maxRecDepth 100000 in
set_option maxHeartbeats 1000000 in
theorem slices_ContainsS {A : Nat → Prop} {w : World} {xs : List ByteArray} {v : Value} (hv : RepD A w (.slice 1 (xs.map fun s => [.str s])) v) (s : ByteArray) :
    Calls Tryz.prog 165 #[v, .string s] w fun e w' => e = .returned (.bool (memS s xs)) ∧ w' = w := by
  have hcon := slices_IndexS hv s
  have hb : memS s xs = decide (0 ≤ firstP (fun j => decide (xs.getD j ⟨#[]⟩ = s)) xs.length) := by
    rw [firstP_nonneg, range_any xs ⟨#[]⟩ fun z => decide (z = s)]
    rfl
  rw [hb]
  obtain ⟨a, c, rfl⟩ := hv.formM
  generalize firstP (fun j => decide (xs.getD j ⟨#[]⟩ = s)) xs.length = r at *
  generalize xs.length = n at *
  have HC := Lib.hid hcon
  clear hcon hv hb
  go_enter Tryz.func165, Tryz.ntmps165
  go_wp2_with fail
  refine HC.out.mono ?_
  rintro e w1 ⟨rfl, rfl⟩
  go_wp2
  go_ret
  exact ⟨rfl, rfl⟩

/-- The package's words lie where they are. -/
def WordsAt (W : World) : Prop := RepD (fun b => b = 0) W (.slice 1 (words.map fun s => [.str s])) (.slice (some ⟨0, 0, none⟩) 6 6)
theorem WordsAt.old {W W' : World} (h : WordsAt W) (hb : Below W.heap.size W W') : WordsAt W' := RepD.old h hb
def nameR (s : ByteArray) : Bool := okName s && !memS s words
set_option maxRecDepth 100000 in
set_option maxHeartbeats 1000000 in
theorem rule_name (s : ByteArray) (w : World) (hw : WordsAt w) : Calls Tryz.prog 124 #[.string s] w fun e w' => e = .returned (.bool (nameR s)) ∧ Below w.heap.size w w' := by
  have hn : nameR s = (okName s && !memS s words) := rfl
  have hnm := tuple_Name s w
  have hco := fun W (hW : Below w.heap.size w W) => slices_ContainsS (hw.old hW) s
  generalize nameR s = r at *
  generalize memS s words = d at *
  generalize okName s = o at *
  have HN := Lib.hid hn; have HNM := Lib.hid hnm; have HCO := Lib.hid hco
  clear hn hnm hco hw
  cases o with
  | false =>
    go_enter Tryz.func124, Tryz.ntmps124
    go_wp2_with fail
    refine HNM.out.mono ?_
    rintro e w1 ⟨rfl, hb⟩
    go_wp2
    go_ret
    exact ⟨ret_bool (by rw [HN.out]; rfl), hb⟩
  | true =>
    go_enter Tryz.func124, Tryz.ntmps124
    go_wp2_with fail
    refine HNM.out.mono ?_
    rintro e w1 ⟨rfl, hb⟩
    have hc2 := HCO.out _ hb
    have HC2 := Lib.hid hc2
    clear hc2
    go_wp2_with fail
    refine HC2.out.mono ?_
    rintro e w2 ⟨rfl, rfl⟩
    go_wp2
    go_ret
    exact ⟨ret_bool (by rw [HN.out]; simp), hb⟩
end Go.Proofs.YtnfkjodiielidaaGreatDoor

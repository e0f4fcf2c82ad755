/- Layer 14, as plain data: who has what, to a depth; what is asked of, and how often. -/
import Derived.Test.YtnfkjodiielidaaGreatDoorOrd
import Derived.Test.YtnfkjodiielidaaGreatDoorWwhich
namespace Go.Proofs.YtnfkjodiielidaaGreatDoor
set_option linter.unusedVariables false
set_option linter.unusedSimpArgs false
open Go.RowKit

/-- A relation to an object. -/
structure LAt where
  kind : ByteArray
  id : ByteArray
  rel : ByteArray
  deriving DecidableEq, Inhabited
/-- Whether one has it; whether something is left out. -/
structure LVer where
  has : Bool
  cut : Bool
  deriving DecidableEq, Inhabited

def hasL (rs : List LRule) (rel : ByteArray) : Option LExpr := (rs.find? (fun r => decide (r.rel = rel))).map (·.expr)
def findL (l : List LKind) (kind rel : ByteArray) : Option LExpr := (l.find? (fun k => decide (k.name = kind))).bind fun k => hasL k.rules rel

theorem nRT : (sRel = sThis) = False := by simp only [eq_iff_iff, iff_false]; decide +kernel
theorem nFT : (sFrom = sThis) = False := by simp only [eq_iff_iff, iff_false]; decide +kernel
theorem nFR : (sFrom = sRel) = False := by simp only [eq_iff_iff, iff_false]; decide +kernel
/-- What one node of an expression asks of, but for its parts. -/
def asks1 (S : List LTuple) (p : LAt) (e : LExpr) : List LAt :=
  if e.op = sThis then ((usersOf S p.kind p.id p.rel).filter fun u => !decide (u.rel = sEmpty)).map fun u => ⟨u.kind, u.id, u.rel⟩
  else if e.op = sRel then [⟨p.kind, p.id, e.name⟩]
  else if e.op = sFrom then ((usersOf S p.kind p.id e.of).filter fun u => decide (u.rel = sEmpty)).map fun u => ⟨u.kind, u.id, e.name⟩
  else []
def asksE (S : List LTuple) (p : LAt) : LExpr → List LAt
  | .mk o n f ps => (ps.attach.map fun ⟨x, _⟩ => asksE S p x).flatten ++ asks1 S p (.mk o n f ps)
theorem asksE_eq (S : List LTuple) (p : LAt) (e : LExpr) : asksE S p e = (e.parts.map (asksE S p)).flatten ++ asks1 S p e := by
  cases e with
  | mk o n f ps => simp [asksE, LExpr.parts]

def anyV (l : List LVer) : LVer := ⟨l.any (·.has), l.any (·.cut)⟩
/-- What one node says, by what its parts say. -/
def node1 (V : LAt → LVer) (S : List LTuple) (u : LUser) (p : LAt) (e : LExpr) (l : List LVer) : LVer :=
  if e.op = sThis then ⟨((asks1 S p e).any fun q => (V q).has) || decide ((⟨p.kind, p.id, p.rel, u⟩ : LTuple) ∈ S), (asks1 S p e).any fun q => (V q).cut⟩
  else if e.op = sRel then V ⟨p.kind, p.id, e.name⟩
  else if e.op = sFrom then anyV ((asks1 S p e).map V)
  else if e.op = sAnd then ⟨l.all (·.has), l.any (·.cut)⟩
  else if e.op = sBut then ⟨(l.getD 0 default).has && !(l.getD 1 default).has, l.any (·.cut)⟩
  else anyV l
def evalE (V : LAt → LVer) (S : List LTuple) (u : LUser) (p : LAt) : LExpr → LVer
  | .mk o n f ps => node1 V S u p (.mk o n f ps) (ps.attach.map fun ⟨x, _⟩ => evalE V S u p x)
theorem evalE_eq (V : LAt → LVer) (S : List LTuple) (u : LUser) (p : LAt) (e : LExpr) : evalE V S u p e = node1 V S u p e (e.parts.map (evalE V S u p)) := by
  cases e with
  | mk o n f ps => simp [evalE, LExpr.parts]

/-- All nodes of an expression have their form. -/
def formed (e : LExpr) : Bool := e.all formB
theorem formed_eq (e : LExpr) : formed e = (formB e && e.parts.all formed) := by unfold formed; rw [LExpr.all_eq]
theorem formed_leaf {e : LExpr} (h : formed e = true) (ho : e.op = sThis ∨ e.op = sRel ∨ e.op = sFrom) : e.parts = [] := by
  rw [formed_eq] at h
  simp only [Bool.and_eq_true] at h
  have h1 := h.1
  unfold formB at h1
  rcases ho with ho | ho | ho
  · simp [ho] at h1; exact h1.2
  · have : ¬ (sRel = sThis) := by decide +kernel
    simp [ho, this] at h1; exact h1.2
  · have a : ¬ (sFrom = sThis) := by decide +kernel
    have b : ¬ (sFrom = sRel) := by decide +kernel
    simp [ho, a, b] at h1; exact h1
theorem formed_part {e x : LExpr} (h : formed e = true) (hx : x ∈ e.parts) : formed x = true := by
  rw [formed_eq] at h
  simp only [Bool.and_eq_true, List.all_eq_true] at h
  exact h.2 x hx

/-- Something is left out of what an expression says just where something is left out of what it asks of. -/
theorem cut_evalE (V : LAt → LVer) (S : List LTuple) (u : LUser) (p : LAt) (e : LExpr) : formed e = true → (evalE V S u p e).cut = (asksE S p e).any fun q => (V q).cut := by
  induction e using LExpr.ind with
  | h e ih =>
  intro hf
  rw [evalE_eq, asksE_eq]
  unfold node1
  by_cases h1 : e.op = sThis
  · rw [formed_leaf hf (.inl h1)]; simp [h1]
  · by_cases h2 : e.op = sRel
    · rw [formed_leaf hf (.inr (.inl h2))]; simp [h2, asks1, nRT]
    · by_cases h3 : e.op = sFrom
      · rw [formed_leaf hf (.inr (.inr h3))]; simp [h3, anyV, Function.comp_def, nFT, nFR]
      · have ha : asks1 S p e = [] := by simp [asks1, h1, h2, h3]
        have hp : (e.parts.map (evalE V S u p)).any (·.cut) = ((e.parts.map (asksE S p)).flatten ++ asks1 S p e).any fun q => (V q).cut := by
          rw [ha, List.append_nil]
          simp only [List.any_map, List.any_flatten, Function.comp_def]
          rw [Bool.eq_iff_iff, List.any_eq_true, List.any_eq_true]
          constructor
          · rintro ⟨x, hx, h⟩
            exact ⟨x, hx, by rw [← ih x hx (formed_part hf hx)]; exact h⟩
          · rintro ⟨x, hx, h⟩
            exact ⟨x, hx, by rw [ih x hx (formed_part hf hx)]; exact h⟩
        rw [← hp]
        simp only [h1, h2, h3, if_false]
        split
        · rfl
        · split <;> rfl
/-- The same, if what is asked of is answered alike. -/
theorem evalE_congr {V V' : LAt → LVer} (S : List LTuple) (u : LUser) (p : LAt) (e : LExpr) : (∀ q, q ∈ asksE S p e → V q = V' q) → evalE V S u p e = evalE V' S u p e := by
  induction e using LExpr.ind with
  | h e ih =>
  intro hq
  rw [asksE_eq] at hq
  rw [evalE_eq, evalE_eq]
  have h1 : e.parts.map (evalE V S u p) = e.parts.map (evalE V' S u p) := by
    refine List.map_congr_left fun x hx => ih x hx fun q hqx => hq q ?_
    exact List.mem_append_left _ (List.mem_flatten.2 ⟨_, List.mem_map.2 ⟨x, hx, rfl⟩, hqx⟩)
  have h2 : ∀ q, q ∈ asks1 S p e → V q = V' q := fun q h => hq q (List.mem_append_right _ h)
  rw [h1]
  unfold node1
  have h3 : (asks1 S p e).any (fun q => (V q).has) = (asks1 S p e).any (fun q => (V' q).has) := by
    rw [Bool.eq_iff_iff, List.any_eq_true, List.any_eq_true]
    constructor
    · rintro ⟨q, hq, h⟩; exact ⟨q, hq, by rw [← h2 q hq]; exact h⟩
    · rintro ⟨q, hq, h⟩; exact ⟨q, hq, by rw [h2 q hq]; exact h⟩
  have h4 : (asks1 S p e).any (fun q => (V q).cut) = (asks1 S p e).any (fun q => (V' q).cut) := by
    rw [Bool.eq_iff_iff, List.any_eq_true, List.any_eq_true]
    constructor
    · rintro ⟨q, hq, h⟩; exact ⟨q, hq, by rw [← h2 q hq]; exact h⟩
    · rintro ⟨q, hq, h⟩; exact ⟨q, hq, by rw [h2 q hq]; exact h⟩
  have h5 : (asks1 S p e).map V = (asks1 S p e).map V' := List.map_congr_left h2
  rw [h3, h4, h5]
  by_cases o1 : e.op = sThis
  · simp [o1]
  · by_cases o2 : e.op = sRel
    · have : V ⟨p.kind, p.id, e.name⟩ = V' ⟨p.kind, p.id, e.name⟩ := h2 _ (by simp [asks1, o2, nRT])
      simp [o1, o2, this]
    · simp [o1, o2]

section
variable (l : List LKind) (S : List LTuple) (u : LUser)
def asksP (p : LAt) : List LAt := match findL l p.kind p.rel with
  | none => []
  | some e => asksE S p e
/-- Whether the user has a relation to an object, to a depth. -/
def verd : Nat → LAt → LVer
  | 0, _ => ⟨false, true⟩
  | d + 1, p => match findL l p.kind p.rel with
    | none => ⟨false, false⟩
    | some e => evalE (verd d) S u p e
/-- What is asked of on the way, each with its depth. -/
def Reach (r : Nat × LAt) : Nat → LAt → Prop
  | 0, _ => False
  | d + 1, p => r = (d + 1, p) ∨ ∃ q, q ∈ asksP l S p ∧ Reach r d q
/-- What is asked of, so many steps away. -/
def lev : Nat → LAt → List LAt
  | 0, p => [p]
  | j + 1, p => (asksP l S p).flatMap (lev j)
end
section
variable {l : List LKind} {S : List LTuple} {u : LUser}
/-- All rules have their form. -/
def formedL (l : List LKind) : Bool := l.all fun k => k.rules.all fun r => formed r.expr
theorem findL_formed (hf : formedL l = true) {k r : ByteArray} {e : LExpr} (h : findL l k r = some e) : formed e = true := by
  unfold findL hasL at h
  obtain ⟨kd, h1, h2⟩ := Option.bind_eq_some_iff.1 h
  obtain ⟨ru, h3, rfl⟩ := Option.map_eq_some_iff.1 h2
  have m1 := List.mem_of_find?_eq_some h1
  have m2 := List.mem_of_find?_eq_some h3
  unfold formedL at hf
  simp only [List.all_eq_true] at hf
  exact hf kd m1 ru m2
theorem cut_verd (hf : formedL l = true) (d : Nat) : ∀ p, (verd l S u d p).cut = !(lev l S d p).isEmpty := by
  induction d with
  | zero => intro p; simp [verd, lev]
  | succ d ih =>
    intro p
    simp only [verd, lev, asksP]
    cases h : findL l p.kind p.rel with
    | none => simp
    | some e =>
      simp only
      rw [cut_evalE _ _ _ _ _ (findL_formed hf h)]
      rw [Bool.eq_iff_iff, List.any_eq_true]
      simp only [ih, Bool.not_eq_true', List.isEmpty_eq_false_iff]
      constructor
      · rintro ⟨q, hq, h1⟩ h0
        rw [List.flatMap_eq_nil_iff] at h0
        exact h1 (h0 q hq)
      · intro h0
        refine Classical.byContradiction fun hc => h0 ?_
        rw [List.flatMap_eq_nil_iff]
        intro q hq
        exact Classical.byContradiction fun h1 => hc ⟨q, hq, h1⟩
theorem reach_lev (r : Nat × LAt) : ∀ (d : Nat) (p : LAt), Reach l S r d p ↔ ∃ j, j < d ∧ r.1 = d - j ∧ r.2 ∈ lev l S j p := by
  intro d
  induction d with
  | zero => intro p; simp [Reach]
  | succ d ih =>
    intro p
    simp only [Reach]
    constructor
    · rintro (rfl | ⟨q, hq, h⟩)
      · exact ⟨0, by omega, by simp, by simp [lev]⟩
      · obtain ⟨j, h1, h2, h3⟩ := (ih q).1 h
        exact ⟨j + 1, by omega, by omega, List.mem_flatMap.2 ⟨q, hq, h3⟩⟩
    · rintro ⟨j, h1, h2, h3⟩
      cases j with
      | zero =>
        left
        simp only [lev, List.mem_singleton] at h3
        obtain ⟨a, b⟩ := r
        simp at h2 h3
        rw [h2, h3]
      | succ j =>
        right
        obtain ⟨q, hq, h4⟩ := List.mem_flatMap.1 h3
        exact ⟨q, hq, (ih q).2 ⟨j, by omega, by omega, h4⟩⟩
theorem lev_succ (j : Nat) : ∀ p q, q ∈ lev l S (j + 1) p ↔ ∃ x, x ∈ lev l S j p ∧ q ∈ asksP l S x := by
  induction j with
  | zero => intro p q; simp [lev]
  | succ j ih =>
    intro p q
    rw [lev, List.mem_flatMap]
    simp only [ih]
    constructor
    · rintro ⟨a, ha, x, hx, hq⟩
      exact ⟨x, (ih p x).1 (List.mem_flatMap.2 ⟨a, ha, hx⟩), hq⟩
    · rintro ⟨x, hx, hq⟩
      obtain ⟨a, ha, hx⟩ := List.mem_flatMap.1 ((ih p x).2 hx)
      exact ⟨a, ha, x, hx, hq⟩
/-- Deeper: where nothing is left out, the same. -/
theorem verd_deeper (hf : formedL l = true) (d : Nat) : ∀ p, (verd l S u d p).cut = false → verd l S u (d + 1) p = verd l S u d p := by
  induction d with
  | zero => intro p h; simp [verd] at h
  | succ d ih =>
    intro p h
    rw [show verd l S u (d + 1) p = match findL l p.kind p.rel with | none => ⟨false, false⟩ | some e => evalE (verd l S u d) S u p e from rfl] at h ⊢
    rw [show verd l S u (d + 1 + 1) p = match findL l p.kind p.rel with | none => ⟨false, false⟩ | some e => evalE (verd l S u (d + 1)) S u p e from rfl]
    cases hh : findL l p.kind p.rel with
    | none => rfl
    | some e =>
      simp only [hh] at h ⊢
      rw [cut_evalE _ _ _ _ _ (findL_formed hf hh)] at h
      refine evalE_congr S u p e fun q hq => ih q ?_
      have := List.any_eq_false.1 h q hq
      simpa using this
end
end Go.Proofs.YtnfkjodiielidaaGreatDoor

/- Layer 15, as plain data: how a tree grows; its users are those that have the relation. -/
import Derived.Test.YtnfkjodiielidaaGreatDoorPtree
import Derived.Test.YtnfkjodiielidaaGreatDoorPcheck2
namespace Go.Proofs.YtnfkjodiielidaaGreatDoor
set_option linter.unusedVariables false
set_option linter.unusedSimpArgs false
open Go.RowKit

def tNone : LTree := .mk sNone [] []
/-- What one node's own tree is but for the parts that its expression has. -/
def nodeOp (e : LExpr) : ByteArray := if e.op = sThis ∨ e.op = sFrom then sOr else e.op
def nodeUsers (S : List LTuple) (o : LUser) (e : LExpr) : List LUser := if e.op = sThis then usersOf S o.kind o.id o.rel else []
def nodeNext (S : List LTuple) (o : LUser) (e : LExpr) : List LUser :=
  if e.op = sThis then (usersOf S o.kind o.id o.rel).filter fun u => !decide (u.rel = sEmpty)
  else if e.op = sFrom then ((usersOf S o.kind o.id e.of).filter fun u => decide (u.rel = sEmpty)).map fun u => ⟨u.kind, u.id, e.name⟩
  else []
def growE (T : LUser → LTree) (S : List LTuple) (o : LUser) : LExpr → LTree
  | .mk op n f ps => if op = sRel then T ⟨o.kind, o.id, n⟩ else .mk (nodeOp (.mk op n f ps)) (nodeUsers S o (.mk op n f ps)) ((nodeNext S o (.mk op n f ps)).map T ++ ps.attach.map fun ⟨x, _⟩ => growE T S o x)
theorem growE_eq (T : LUser → LTree) (S : List LTuple) (o : LUser) (e : LExpr) : growE T S o e = if e.op = sRel then T ⟨o.kind, o.id, e.name⟩ else .mk (nodeOp e) (nodeUsers S o e) ((nodeNext S o e).map T ++ e.parts.map (growE T S o)) := by
  cases e with
  | mk op n f ps => by_cases h : op = sRel <;> simp [growE, LExpr.parts, LExpr.op, LExpr.name, h]
section
variable (l : List LKind) (S : List LTuple)
def growT : Nat → LUser → LTree
  | 0, _ => tNone
  | d + 1, o => match findL l o.kind o.rel with
    | none => tNone
    | some e => growE (growT d) S o e
end
theorem natSize_pos (t : LTree) : 1 ≤ t.natSize := by rw [LTree.natSize_eq]; omega

/-- The users of a tree are those that have the relation, to that depth. -/
theorem in_growE {S : List LTuple} {u : LUser} {T : LUser → LTree} {V : LAt → LVer} (hT : ∀ o : LUser, (T o).inB u = (V ⟨o.kind, o.id, o.rel⟩).has) (o : LUser) (e : LExpr) : formed e = true → (growE T S o e).inB u = (evalE V S u ⟨o.kind, o.id, o.rel⟩ e).has := by
  induction e using LExpr.ind with
  | h e ih =>
  intro hf
  rw [growE_eq, evalE_eq]
  have hm : ((e.parts.map (growE T S o)).map (LTree.inB u)) = (e.parts.map (evalE V S u ⟨o.kind, o.id, o.rel⟩)).map (·.has) := by
    rw [List.map_map, List.map_map]
    exact List.map_congr_left fun x hx => ih x hx (formed_part hf hx)
  have n1 : ¬ (sRel = sThis) := by decide +kernel
  have n2 : ¬ (sFrom = sThis) := by decide +kernel
  have n3 : ¬ (sFrom = sRel) := by decide +kernel
  have n4 : ¬ (sThis = sRel) := by decide +kernel
  unfold node1
  by_cases o2 : e.op = sRel
  · simp only [o2, if_true, n1, if_false, hT]
  · rw [if_neg o2, LTree.inB_eq]
    by_cases o1 : e.op = sThis
    · rw [formed_leaf hf (.inl o1)]
      simp only [LTree.op, LTree.users, LTree.parts, nodeOp, nodeUsers, nodeNext, o1, true_or, if_true, LTree.in1, List.map_nil, List.append_nil, List.map_map, List.any_map, asks1, Function.comp_def, id, hT]
      rw [Bool.or_comm]
      congr 1
      rw [decide_eq_decide, mem_usersOf]
      constructor
      · rintro ⟨⟨a, b, c, d⟩, h1, h2, h3, h4, h5⟩; simp at h2 h3 h4 h5; subst h2 h3 h4 h5; exact h1
      · intro h; exact ⟨_, h, rfl, rfl, rfl, rfl⟩
    · by_cases o3 : e.op = sFrom
      · rw [formed_leaf hf (.inr (.inr o3))]
        simp only [LTree.op, LTree.users, LTree.parts, nodeOp, nodeUsers, nodeNext, o3, or_true, if_true, LTree.in1, List.map_nil, List.append_nil, List.map_map, List.any_map, asks1, Function.comp_def, id, hT, n2, n3, if_false, anyV, List.not_mem_nil, decide_false, Bool.false_or]
      · have hp : ¬ (e.op = sThis ∨ e.op = sFrom) := fun h => h.elim o1 o3
        simp only [LTree.op, LTree.users, LTree.parts, nodeOp, nodeUsers, nodeNext, if_neg hp, if_neg o1, if_neg o2, if_neg o3, List.map_nil, List.nil_append, hm]
        rw [formed_eq] at hf
        simp only [Bool.and_eq_true] at hf
        have hF := hf.1
        unfold formB at hF
        simp only [if_neg o1, if_neg o2, if_neg o3] at hF
        have hlen : (e.parts.map (evalE V S u ⟨o.kind, o.id, o.rel⟩)).length = e.parts.length := by simp
        generalize e.parts.map (evalE V S u ⟨o.kind, o.id, o.rel⟩) = L at *
        have m1 : ¬ (sAnd = sOr) := by decide +kernel
        have m2 : ¬ (sBut = sOr) := by decide +kernel
        have m3 : ¬ (sBut = sAnd) := by decide +kernel
        have m4 : ¬ (sOr = sAnd) := by decide +kernel
        have m5 : ¬ (sOr = sBut) := by decide +kernel
        unfold LTree.in1
        by_cases o4 : e.op = sOr
        · simp only [o4, if_true, m4, m5, if_false, anyV, List.not_mem_nil, decide_false, Bool.false_or, List.any_map, Function.comp_def, id]
        · by_cases o5 : e.op = sAnd
          · have : L ≠ [] := by
              intro h0
              rw [h0] at hlen
              simp [o5] at hF
              simp at hlen
              omega
            simp only [o5, m1, if_false, if_true, List.all_map, Function.comp_def, id]
            have : (L.map (·.has)).isEmpty = false := by
              cases L with
              | nil => exact absurd rfl this
              | cons => rfl
            rw [this]; rfl
          · by_cases o6 : e.op = sBut
            · simp [o6, m2, m3] at hF
              simp only [o6, m2, m3, if_false, if_true]
              match L, (show L.length = 2 by omega) with
              | [a, b], _ => simp
            · simp [o4, o5, o6] at hF
theorem in_growT {l : List LKind} {S : List LTuple} {u : LUser} (hf : formedL l = true) (d : Nat) : ∀ o : LUser, (growT l S d o).inB u = (verd l S u d ⟨o.kind, o.id, o.rel⟩).has := by
  have h0 : tNone.inB u = false := by
    rw [LTree.inB_eq]
    have a : ¬ (sNone = sOr) := by decide +kernel
    have b : ¬ (sNone = sAnd) := by decide +kernel
    have c : ¬ (sNone = sBut) := by decide +kernel
    simp [tNone, LTree.op, LTree.users, LTree.parts, LTree.in1, a, b, c]
  induction d with
  | zero => intro o; simp only [growT, verd]; exact h0
  | succ d ih =>
    intro o
    simp only [growT, verd]
    cases hh : findL l o.kind o.rel with
    | none => simpa using h0
    | some e => exact in_growE ih o e (findL_formed hf hh)
/-- Who is named in a tree is named by a tuple. -/
theorem named_growE {S : List LTuple} {u : LUser} {T : LUser → LTree} (hT : ∀ o : LUser, u ∈ (T o).named → ∃ t, t ∈ S ∧ t.user = u) (o : LUser) (e : LExpr) : u ∈ (growE T S o e).named → ∃ t, t ∈ S ∧ t.user = u := by
  induction e using LExpr.ind with
  | h e ih =>
  rw [growE_eq]
  split
  · exact hT _
  · rw [LTree.named_eq]
    intro h
    rcases List.mem_append.1 h with h | h
    · simp only [LTree.users, nodeUsers] at h
      split at h
      · obtain ⟨t, h1, _, _, _, h2⟩ := mem_usersOf.1 h; exact ⟨t, h1, h2⟩
      · cases h
    · obtain ⟨L, hL, hu⟩ := List.mem_flatten.1 h
      obtain ⟨x, hx, rfl⟩ := List.mem_map.1 hL
      simp only [LTree.parts] at hx
      rcases List.mem_append.1 hx with hx | hx
      · obtain ⟨y, _, rfl⟩ := List.mem_map.1 hx; exact hT _ hu
      · obtain ⟨y, hy, rfl⟩ := List.mem_map.1 hx; exact ih y hy hu
theorem named_growT {l : List LKind} {S : List LTuple} {u : LUser} (d : Nat) : ∀ o : LUser, u ∈ (growT l S d o).named → ∃ t, t ∈ S ∧ t.user = u := by
  induction d with
  | zero => intro o h; simp [growT, tNone, LTree.named_eq, LTree.users, LTree.parts] at h
  | succ d ih =>
    intro o h
    simp only [growT] at h
    cases hh : findL l o.kind o.rel with
    | none => simp [hh, tNone, LTree.named_eq, LTree.users, LTree.parts] at h
    | some e => simp only [hh] at h; exact named_growE ih o e h
end Go.Proofs.YtnfkjodiielidaaGreatDoor

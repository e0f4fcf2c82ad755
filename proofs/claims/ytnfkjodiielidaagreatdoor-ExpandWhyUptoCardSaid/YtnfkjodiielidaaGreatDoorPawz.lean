/- Layer 15's example: what the plain laws say of it. -/
import Derived.Test.YtnfkjodiielidaaGreatDoorWtree
import Derived.Test.YtnfkjodiielidaaGreatDoorPtree
namespace Go.Proofs.YtnfkjodiielidaaGreatDoor
set_option linter.unusedVariables false
set_option linter.unusedSimpArgs false
open Go.RowKit

def zDoc : ByteArray := ⟨#[100, 111, 99]⟩
def zGroup : ByteArray := ⟨#[103, 114, 111, 117, 112]⟩
def zUser : ByteArray := ⟨#[117, 115, 101, 114]⟩
def zViewer : ByteArray := ⟨#[118, 105, 101, 119, 101, 114]⟩
def zMember : ByteArray := ⟨#[109, 101, 109, 98, 101, 114]⟩
def zA : ByteArray := ⟨#[97]⟩
def zG : ByteArray := ⟨#[103]⟩
def zX : ByteArray := ⟨#[120]⟩
def zY : ByteArray := ⟨#[121]⟩
def zNo : ByteArray := ⟨#[]⟩
def eThis : LExpr := .mk sThis zNo zNo []
def uG : LUser := ⟨zGroup, zG, zMember⟩
def uX : LUser := ⟨zUser, zX, zNo⟩
def uY : LUser := ⟨zUser, zY, zNo⟩
def oDoc : LUser := ⟨zDoc, zA, zViewer⟩
def l15 : List LKind := [⟨zDoc, [⟨zViewer, eThis⟩]⟩, ⟨zGroup, [⟨zMember, eThis⟩]⟩]
def F15 : List LTuple := [⟨zDoc, zA, zViewer, uX⟩, ⟨zDoc, zA, zViewer, uG⟩, ⟨zGroup, zG, zMember, uY⟩]
def T15b : LTree := .mk sOr [uY] []
def T15 : LTree := .mk sOr [uG, uX] [T15b]
theorem z_new : newS F15 = F15 := by decide +kernel
theorem z_find1 : findL l15 zDoc zViewer = some eThis := by kernel_rfl
theorem z_find2 : findL l15 zGroup zMember = some eThis := by kernel_rfl
theorem z_users1 : usersOf F15 zDoc zA zViewer = [uG, uX] := by decide +kernel
theorem z_users2 : usersOf F15 zGroup zG zMember = [uY] := by decide +kernel
theorem z_grow2 (d : Nat) : growT l15 F15 (d + 1) uG = T15b := by
  have h1 : findL l15 uG.kind uG.rel = some eThis := z_find2
  simp only [growT, h1]
  rw [growE_eq, if_neg (by decide +kernel)]
  have h2 : nodeUsers F15 uG eThis = [uY] := by unfold nodeUsers; rw [if_pos (by rfl)]; exact z_users2
  have h3 : nodeNext F15 uG eThis = [] := by unfold nodeNext; rw [if_pos (by rfl)]; show List.filter _ (usersOf F15 zGroup zG zMember) = []; rw [z_users2]; decide +kernel
  have h4 : nodeOp eThis = sOr := by unfold nodeOp; rw [if_pos (.inl (by rfl))]
  rw [h2, h3, h4]
  rfl
theorem z_grow1 (d : Nat) : growT l15 F15 (d + 2) oDoc = T15 := by
  have h1 : findL l15 oDoc.kind oDoc.rel = some eThis := z_find1
  rw [show d + 2 = (d + 1) + 1 from rfl]
  rw [growT]
  simp only [h1]
  rw [growE_eq, if_neg (by decide +kernel)]
  have h2 : nodeUsers F15 oDoc eThis = [uG, uX] := by unfold nodeUsers; rw [if_pos (by rfl)]; exact z_users1
  have h3 : nodeNext F15 oDoc eThis = [uG] := by unfold nodeNext; rw [if_pos (by rfl)]; show List.filter _ (usersOf F15 zDoc zA zViewer) = _; rw [z_users1]; decide +kernel
  have h4 : nodeOp eThis = sOr := by unfold nodeOp; rw [if_pos (.inl (by rfl))]
  rw [h2, h3, h4, List.map_cons, z_grow2]
  rfl
theorem z_size : T15.natSize = 2 := by
  rw [LTree.natSize_eq, T15, LTree.parts, List.map_cons, List.map_nil, LTree.natSize_eq, T15b, LTree.parts]
  rfl
theorem z_named : T15.named = [uG, uX, uY] := by
  rw [LTree.named_eq, T15, LTree.parts, LTree.users, List.map_cons, List.map_nil, LTree.named_eq, T15b, LTree.parts, LTree.users]
  rfl
theorem z_in (u : LUser) : T15.inB u = true ↔ u = uG ∨ u = uX ∨ u = uY := by
  have h2 : T15b.inB u = decide (u = uY) := by
    rw [LTree.inB_eq, T15b, LTree.in1, LTree.op, if_pos rfl, LTree.users, LTree.parts]
    simp
  rw [LTree.inB_eq, T15, LTree.in1, LTree.op, if_pos rfl, LTree.users, LTree.parts, List.map_cons, List.map_nil, h2]
  simp [or_assoc]
theorem z_flat : T15.flat = [uG, uX, uY] := by
  have h : canon uLess [uG, uX, uY] = T15.flat := LTree.eq_flat fun u => by rw [z_in]; simp
  rw [← h]
  decide +kernel
theorem z_ways : T15.ways uY = [[0]] := by
  rw [LTree.ways_eq, T15, LTree.parts, LTree.users, List.map_cons, List.map_nil, LTree.ways_eq, T15b, LTree.parts, LTree.users]
  decide +kernel
theorem z_esize : eThis.size = 1 := by rw [LExpr.size_eq]; rfl
theorem z_edeep : eThis.deep = 1 := by rw [LExpr.deep_eq, show eThis.parts = [] from rfl]; decide +kernel
theorem z_eall (q : LExpr → Bool) : eThis.all q = q eThis := by rw [LExpr.all_eq]; simp [eThis, LExpr.parts]
theorem z_code : codeR l15 = 0 := by
  have h1 : (l15.all fun k => k.rules.all sizesB) = true := by
    simp only [l15, List.all_cons, List.all_nil, sizesB, z_esize, z_edeep]
    decide +kernel
  have h2 : (l15.all fun k => k.rules.all fun r => r.expr.all formB) = true := by
    simp only [l15, List.all_cons, List.all_nil, z_eall]
    decide +kernel
  have h3 : namesB l15 = true := by
    unfold namesB
    have a : kindsB l15 = true := by kernel_rfl
    have b : (l15.all fun k => k.rules.all fun r => r.expr.all (refB k)) = true := by
      simp only [l15, List.all_cons, List.all_nil, z_eall]
      decide +kernel
    rw [a, b]; rfl
  have h4 : (l15.any fun k => decide (64 < k.rules.length)) = false := by decide +kernel
  have h5 : decide (64 < l15.length) = false := by decide +kernel
  unfold codeR
  rw [h1, h2, h3, h4, h5]
  rfl
theorem z_codeT : codeT l15 F15 oDoc 5 100 = 0 := by
  unfold codeT
  rw [if_neg (by omega), z_code, if_neg (by omega)]
  have h1 : findL l15 oDoc.kind oDoc.rel = some eThis := z_find1
  rw [h1]
  have h2 : growT l15 F15 (5 : Int).toNat oDoc = T15 := z_grow1 3
  rw [h2, z_size]
  rfl
theorem z_tree : treeT l15 F15 oDoc 5 100 = T15 := by
  unfold treeT
  rw [z_codeT, if_pos rfl]
  exact z_grow1 3
theorem z_slim : slimL l15 := by
  have : eThis.slim = true := by unfold LExpr.slim; rw [z_eall]; rfl
  intro k hk r hr
  simp only [l15, List.mem_cons, List.not_mem_nil, or_false] at hk
  rcases hk with rfl | rfl <;> (simp only [List.mem_cons, List.not_mem_nil, or_false] at hr; subst hr; exact this)
end Go.Proofs.YtnfkjodiielidaaGreatDoor

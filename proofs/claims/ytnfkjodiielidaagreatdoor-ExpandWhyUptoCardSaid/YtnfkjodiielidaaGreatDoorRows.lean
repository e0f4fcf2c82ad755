/-
  NARROWER THAN 'FOR EVERY INPUT', by the rows' own cells (each row's printed sentence says how): ExpandTrees: loops, laid · ExpandUsers: loops, laid · ExpandWhy: loops, laid · ExpandBudget: loops, laid · CheckSteps: loops, laid · ExpandOps: loops, laid · CheckNamed: loops, laid · ExpandDeep: loops, laid · ExpandFlat: loops, laid · CheckDeeper: loops, laid · CheckSets: laid · CheckOrder: loops, laid · CheckMore: loops, laid.
  DERIVED. THE GIVEN ROWS OF THIS SEAT. 13 by the template 'for every input the law returns true; each argument reads behind the call as it read before'; 0 by the template 'total and deterministic' (their statements: YtnfkjodiielidaaGreatDoorTotals.lean).
  GIVEN WITH THE SEED: the statements are not yours to turn. If you find one false, say at which input.
  Laid BY PROGRAM, IN A SANDBOX (cutbox-rows.mjs): the forced cells as the released guide's own fill.sh prints them over the translation efc7acf3aab8232e… (all of the seat's roots in one cut). By AI agents, Wed Nov 11 2026. No macro, syntax, notation, axiom, sorry.
-/
import Derived.Test.YtnfkjodiielidaaGreatDoorChecked
import GoSem.Claim
import GoSem.ClaimJoined
import GoSem.ClaimMapViews
import Derived.JoinedTies
import Derived.KernelRfl
namespace Go.Proofs.YtnfkjodiielidaaGreatDoor
/- THE CELL 'sum', in the pinned program and in every row, IS THE sha256 OF THE DUMP (.gsa) THAT YtnfkjodiielidaaGreatDoorProg.lean LOADS. Nothing in Lean hashes anything: it is a label: what it is worth is what the hold of that sum in a sandbox is worth. -/
noncomputable def Tryz.pinned : Pinned := { name := "ytnfkjodiielidaagreatdoor", sum := "efc7acf3aab8232e77e5d0abd6ed16ac66405dfe4dcb63a4dc125482542ab54f", checked := Tryz.checked }
namespace Rows
def none {H : Type} : Left H := { results := [], args := [] }

/- WHAT THE LISTED PACKAGE-LEVEL VARIABLES READ AS WHEN THE CALL BEGINS. Each datum BY PROGRAM (the guide's laid-datum.mjs) off the statement by which the dump's own 'gosem.cut.vars' lays the variable. In a bare row this is a premise. The card (YtnfkjodiielidaaGreatDoorCards.lean) ties it to the program's text. -/
def laid_lunette_rule_words {H : Type} : DataW H := .agg [.lit (.string [116, 104, 105, 115]), .lit (.string [111, 114]), .lit (.string [97, 110, 100]), .lit (.string [98, 117, 116]), .lit (.string [102, 114, 111, 109]), .lit (.string [107, 105, 110, 100])]

/-- 'lunettelaw15.ExpandTrees': WHATEVER THE INPUT: true; the input reads as it did. -/
def expandTreesSpec : ChangeSpec := { name := "expandTrees", fn := fun _ => fun
  | [d1, d2, d3, d4] => { results := [.lit (.bool true)], args := [d1, d2, d3, d4] }
  | _ => none }
def expandTreesRow : OpenClaim := { program := "ytnfkjodiielidaagreatdoor", sum := "efc7acf3aab8232e77e5d0abd6ed16ac66405dfe4dcb63a4dc125482542ab54f", func := "lunette/lunettelaw15.ExpandTrees", spec := "expandTrees", unfollowed := true, recurses := true, named := ["lunette/rule.words"], loops := true, plainKeys := false, apart := false, laid := [("lunette/rule.words", laid_lunette_rule_words)] }
def ExpandTreesSaid : Prop := expandTreesRow.holds Tryz.pinned (OpenSpec.ofChange expandTreesSpec)

/-- ITS FALSE NEIGHBOUR: 'it returns false'. Refute it at one input. -/
def expandTreesWrong : ChangeSpec := { name := "expandTrees", fn := fun _ => fun
  | [d1, d2, d3, d4] => { results := [.lit (.bool false)], args := [d1, d2, d3, d4] }
  | _ => none }
def ExpandTreesWrongFalsely : Prop := expandTreesRow.holds Tryz.pinned (OpenSpec.ofChange expandTreesWrong)

/-- 'lunettelaw15.ExpandUsers': WHATEVER THE INPUT: true; the input reads as it did. -/
def expandUsersSpec : ChangeSpec := { name := "expandUsers", fn := fun _ => fun
  | [d1, d2] => { results := [.lit (.bool true)], args := [d1, d2] }
  | _ => none }
def expandUsersRow : OpenClaim := { program := "ytnfkjodiielidaagreatdoor", sum := "efc7acf3aab8232e77e5d0abd6ed16ac66405dfe4dcb63a4dc125482542ab54f", func := "lunette/lunettelaw15.ExpandUsers", spec := "expandUsers", unfollowed := true, recurses := true, named := ["lunette/rule.words"], loops := true, plainKeys := false, apart := false, laid := [("lunette/rule.words", laid_lunette_rule_words)] }
def ExpandUsersSaid : Prop := expandUsersRow.holds Tryz.pinned (OpenSpec.ofChange expandUsersSpec)

/-- ITS FALSE NEIGHBOUR: 'it returns false'. Refute it at one input. -/
def expandUsersWrong : ChangeSpec := { name := "expandUsers", fn := fun _ => fun
  | [d1, d2] => { results := [.lit (.bool false)], args := [d1, d2] }
  | _ => none }
def ExpandUsersWrongFalsely : Prop := expandUsersRow.holds Tryz.pinned (OpenSpec.ofChange expandUsersWrong)

/-- 'lunettelaw15.ExpandWhy': WHATEVER THE INPUT: true; the input reads as it did. -/
def expandWhySpec : ChangeSpec := { name := "expandWhy", fn := fun _ => fun
  | [d1, d2] => { results := [.lit (.bool true)], args := [d1, d2] }
  | _ => none }
def expandWhyRow : OpenClaim := { program := "ytnfkjodiielidaagreatdoor", sum := "efc7acf3aab8232e77e5d0abd6ed16ac66405dfe4dcb63a4dc125482542ab54f", func := "lunette/lunettelaw15.ExpandWhy", spec := "expandWhy", unfollowed := true, recurses := true, named := ["lunette/rule.words"], loops := true, plainKeys := false, apart := false, laid := [("lunette/rule.words", laid_lunette_rule_words)] }
def ExpandWhySaid : Prop := expandWhyRow.holds Tryz.pinned (OpenSpec.ofChange expandWhySpec)

/-- ITS FALSE NEIGHBOUR: 'it returns false'. Refute it at one input. -/
def expandWhyWrong : ChangeSpec := { name := "expandWhy", fn := fun _ => fun
  | [d1, d2] => { results := [.lit (.bool false)], args := [d1, d2] }
  | _ => none }
def ExpandWhyWrongFalsely : Prop := expandWhyRow.holds Tryz.pinned (OpenSpec.ofChange expandWhyWrong)

/-- 'lunettelaw15.ExpandBudget': WHATEVER THE INPUT: true; the input reads as it did. -/
def expandBudgetSpec : ChangeSpec := { name := "expandBudget", fn := fun _ => fun
  | [d1, d2, d3, d4] => { results := [.lit (.bool true)], args := [d1, d2, d3, d4] }
  | _ => none }
def expandBudgetRow : OpenClaim := { program := "ytnfkjodiielidaagreatdoor", sum := "efc7acf3aab8232e77e5d0abd6ed16ac66405dfe4dcb63a4dc125482542ab54f", func := "lunette/lunettelaw15.ExpandBudget", spec := "expandBudget", unfollowed := true, recurses := true, named := ["lunette/rule.words"], loops := true, plainKeys := false, apart := false, laid := [("lunette/rule.words", laid_lunette_rule_words)] }
def ExpandBudgetSaid : Prop := expandBudgetRow.holds Tryz.pinned (OpenSpec.ofChange expandBudgetSpec)

/-- ITS FALSE NEIGHBOUR: 'it returns false'. Refute it at one input. -/
def expandBudgetWrong : ChangeSpec := { name := "expandBudget", fn := fun _ => fun
  | [d1, d2, d3, d4] => { results := [.lit (.bool false)], args := [d1, d2, d3, d4] }
  | _ => none }
def ExpandBudgetWrongFalsely : Prop := expandBudgetRow.holds Tryz.pinned (OpenSpec.ofChange expandBudgetWrong)

/-- 'lunettelaw14.CheckSteps': WHATEVER THE INPUT: true; the input reads as it did. -/
def checkStepsSpec : ChangeSpec := { name := "checkSteps", fn := fun _ => fun
  | [d1, d2, d3, d4] => { results := [.lit (.bool true)], args := [d1, d2, d3, d4] }
  | _ => none }
def checkStepsRow : OpenClaim := { program := "ytnfkjodiielidaagreatdoor", sum := "efc7acf3aab8232e77e5d0abd6ed16ac66405dfe4dcb63a4dc125482542ab54f", func := "lunette/lunettelaw14.CheckSteps", spec := "checkSteps", unfollowed := true, recurses := true, named := ["lunette/rule.words"], loops := true, plainKeys := false, apart := false, laid := [("lunette/rule.words", laid_lunette_rule_words)] }
def CheckStepsSaid : Prop := checkStepsRow.holds Tryz.pinned (OpenSpec.ofChange checkStepsSpec)

/-- ITS FALSE NEIGHBOUR: 'it returns false'. Refute it at one input. -/
def checkStepsWrong : ChangeSpec := { name := "checkSteps", fn := fun _ => fun
  | [d1, d2, d3, d4] => { results := [.lit (.bool false)], args := [d1, d2, d3, d4] }
  | _ => none }
def CheckStepsWrongFalsely : Prop := checkStepsRow.holds Tryz.pinned (OpenSpec.ofChange checkStepsWrong)

/-- 'lunettelaw15.ExpandOps': WHATEVER THE INPUT: true; the input reads as it did. -/
def expandOpsSpec : ChangeSpec := { name := "expandOps", fn := fun _ => fun
  | [d1, d2, d3] => { results := [.lit (.bool true)], args := [d1, d2, d3] }
  | _ => none }
def expandOpsRow : OpenClaim := { program := "ytnfkjodiielidaagreatdoor", sum := "efc7acf3aab8232e77e5d0abd6ed16ac66405dfe4dcb63a4dc125482542ab54f", func := "lunette/lunettelaw15.ExpandOps", spec := "expandOps", unfollowed := true, recurses := true, named := ["lunette/rule.words"], loops := true, plainKeys := false, apart := false, laid := [("lunette/rule.words", laid_lunette_rule_words)] }
def ExpandOpsSaid : Prop := expandOpsRow.holds Tryz.pinned (OpenSpec.ofChange expandOpsSpec)

/-- ITS FALSE NEIGHBOUR: 'it returns false'. Refute it at one input. -/
def expandOpsWrong : ChangeSpec := { name := "expandOps", fn := fun _ => fun
  | [d1, d2, d3] => { results := [.lit (.bool false)], args := [d1, d2, d3] }
  | _ => none }
def ExpandOpsWrongFalsely : Prop := expandOpsRow.holds Tryz.pinned (OpenSpec.ofChange expandOpsWrong)

/-- 'lunettelaw14.CheckNamed': WHATEVER THE INPUT: true; the input reads as it did. -/
def checkNamedSpec : ChangeSpec := { name := "checkNamed", fn := fun _ => fun
  | [d1, d2, d3, d4] => { results := [.lit (.bool true)], args := [d1, d2, d3, d4] }
  | _ => none }
def checkNamedRow : OpenClaim := { program := "ytnfkjodiielidaagreatdoor", sum := "efc7acf3aab8232e77e5d0abd6ed16ac66405dfe4dcb63a4dc125482542ab54f", func := "lunette/lunettelaw14.CheckNamed", spec := "checkNamed", unfollowed := true, recurses := true, named := ["lunette/rule.words"], loops := true, plainKeys := false, apart := false, laid := [("lunette/rule.words", laid_lunette_rule_words)] }
def CheckNamedSaid : Prop := checkNamedRow.holds Tryz.pinned (OpenSpec.ofChange checkNamedSpec)

/-- ITS FALSE NEIGHBOUR: 'it returns false'. Refute it at one input. -/
def checkNamedWrong : ChangeSpec := { name := "checkNamed", fn := fun _ => fun
  | [d1, d2, d3, d4] => { results := [.lit (.bool false)], args := [d1, d2, d3, d4] }
  | _ => none }
def CheckNamedWrongFalsely : Prop := checkNamedRow.holds Tryz.pinned (OpenSpec.ofChange checkNamedWrong)

/-- 'lunettelaw15.ExpandDeep': WHATEVER THE INPUT: true; the input reads as it did. -/
def expandDeepSpec : ChangeSpec := { name := "expandDeep", fn := fun _ => fun
  | [d1, d2, d3, d4] => { results := [.lit (.bool true)], args := [d1, d2, d3, d4] }
  | _ => none }
def expandDeepRow : OpenClaim := { program := "ytnfkjodiielidaagreatdoor", sum := "efc7acf3aab8232e77e5d0abd6ed16ac66405dfe4dcb63a4dc125482542ab54f", func := "lunette/lunettelaw15.ExpandDeep", spec := "expandDeep", unfollowed := true, recurses := true, named := ["lunette/rule.words"], loops := true, plainKeys := false, apart := false, laid := [("lunette/rule.words", laid_lunette_rule_words)] }
def ExpandDeepSaid : Prop := expandDeepRow.holds Tryz.pinned (OpenSpec.ofChange expandDeepSpec)

/-- ITS FALSE NEIGHBOUR: 'it returns false'. Refute it at one input. -/
def expandDeepWrong : ChangeSpec := { name := "expandDeep", fn := fun _ => fun
  | [d1, d2, d3, d4] => { results := [.lit (.bool false)], args := [d1, d2, d3, d4] }
  | _ => none }
def ExpandDeepWrongFalsely : Prop := expandDeepRow.holds Tryz.pinned (OpenSpec.ofChange expandDeepWrong)

/-- 'lunettelaw15.ExpandFlat': WHATEVER THE INPUT: true; the input reads as it did. -/
def expandFlatSpec : ChangeSpec := { name := "expandFlat", fn := fun _ => fun
  | [d1, d2, d3, d4] => { results := [.lit (.bool true)], args := [d1, d2, d3, d4] }
  | _ => none }
def expandFlatRow : OpenClaim := { program := "ytnfkjodiielidaagreatdoor", sum := "efc7acf3aab8232e77e5d0abd6ed16ac66405dfe4dcb63a4dc125482542ab54f", func := "lunette/lunettelaw15.ExpandFlat", spec := "expandFlat", unfollowed := true, recurses := true, named := ["lunette/rule.words"], loops := true, plainKeys := false, apart := false, laid := [("lunette/rule.words", laid_lunette_rule_words)] }
def ExpandFlatSaid : Prop := expandFlatRow.holds Tryz.pinned (OpenSpec.ofChange expandFlatSpec)

/-- ITS FALSE NEIGHBOUR: 'it returns false'. Refute it at one input. -/
def expandFlatWrong : ChangeSpec := { name := "expandFlat", fn := fun _ => fun
  | [d1, d2, d3, d4] => { results := [.lit (.bool false)], args := [d1, d2, d3, d4] }
  | _ => none }
def ExpandFlatWrongFalsely : Prop := expandFlatRow.holds Tryz.pinned (OpenSpec.ofChange expandFlatWrong)

/-- 'lunettelaw14.CheckDeeper': WHATEVER THE INPUT: true; the input reads as it did. -/
def checkDeeperSpec : ChangeSpec := { name := "checkDeeper", fn := fun _ => fun
  | [d1, d2, d3, d4] => { results := [.lit (.bool true)], args := [d1, d2, d3, d4] }
  | _ => none }
def checkDeeperRow : OpenClaim := { program := "ytnfkjodiielidaagreatdoor", sum := "efc7acf3aab8232e77e5d0abd6ed16ac66405dfe4dcb63a4dc125482542ab54f", func := "lunette/lunettelaw14.CheckDeeper", spec := "checkDeeper", unfollowed := true, recurses := true, named := ["lunette/rule.words"], loops := true, plainKeys := false, apart := false, laid := [("lunette/rule.words", laid_lunette_rule_words)] }
def CheckDeeperSaid : Prop := checkDeeperRow.holds Tryz.pinned (OpenSpec.ofChange checkDeeperSpec)

/-- ITS FALSE NEIGHBOUR: 'it returns false'. Refute it at one input. -/
def checkDeeperWrong : ChangeSpec := { name := "checkDeeper", fn := fun _ => fun
  | [d1, d2, d3, d4] => { results := [.lit (.bool false)], args := [d1, d2, d3, d4] }
  | _ => none }
def CheckDeeperWrongFalsely : Prop := checkDeeperRow.holds Tryz.pinned (OpenSpec.ofChange checkDeeperWrong)

/-- 'lunettelaw14.CheckSets': WHATEVER THE INPUT: true; the input reads as it did. -/
def checkSetsSpec : ChangeSpec := { name := "checkSets", fn := fun _ => fun
  | [d1, d2, d3, d4] => { results := [.lit (.bool true)], args := [d1, d2, d3, d4] }
  | _ => none }
def checkSetsRow : OpenClaim := { program := "ytnfkjodiielidaagreatdoor", sum := "efc7acf3aab8232e77e5d0abd6ed16ac66405dfe4dcb63a4dc125482542ab54f", func := "lunette/lunettelaw14.CheckSets", spec := "checkSets", unfollowed := true, recurses := true, named := ["lunette/rule.words"], plainKeys := false, apart := false, laid := [("lunette/rule.words", laid_lunette_rule_words)] }
def CheckSetsSaid : Prop := checkSetsRow.holds Tryz.pinned (OpenSpec.ofChange checkSetsSpec)

/-- ITS FALSE NEIGHBOUR: 'it returns false'. Refute it at one input. -/
def checkSetsWrong : ChangeSpec := { name := "checkSets", fn := fun _ => fun
  | [d1, d2, d3, d4] => { results := [.lit (.bool false)], args := [d1, d2, d3, d4] }
  | _ => none }
def CheckSetsWrongFalsely : Prop := checkSetsRow.holds Tryz.pinned (OpenSpec.ofChange checkSetsWrong)

/-- 'lunettelaw14.CheckOrder': WHATEVER THE INPUT: true; the input reads as it did. -/
def checkOrderSpec : ChangeSpec := { name := "checkOrder", fn := fun _ => fun
  | [d1, d2, d3, d4, d5] => { results := [.lit (.bool true)], args := [d1, d2, d3, d4, d5] }
  | _ => none }
def checkOrderRow : OpenClaim := { program := "ytnfkjodiielidaagreatdoor", sum := "efc7acf3aab8232e77e5d0abd6ed16ac66405dfe4dcb63a4dc125482542ab54f", func := "lunette/lunettelaw14.CheckOrder", spec := "checkOrder", unfollowed := true, recurses := true, named := ["lunette/rule.words"], loops := true, plainKeys := false, apart := false, laid := [("lunette/rule.words", laid_lunette_rule_words)] }
def CheckOrderSaid : Prop := checkOrderRow.holds Tryz.pinned (OpenSpec.ofChange checkOrderSpec)

/-- ITS FALSE NEIGHBOUR: 'it returns false'. Refute it at one input. -/
def checkOrderWrong : ChangeSpec := { name := "checkOrder", fn := fun _ => fun
  | [d1, d2, d3, d4, d5] => { results := [.lit (.bool false)], args := [d1, d2, d3, d4, d5] }
  | _ => none }
def CheckOrderWrongFalsely : Prop := checkOrderRow.holds Tryz.pinned (OpenSpec.ofChange checkOrderWrong)

/-- 'lunettelaw14.CheckMore': WHATEVER THE INPUT: true; the input reads as it did. -/
def checkMoreSpec : ChangeSpec := { name := "checkMore", fn := fun _ => fun
  | [d1, d2, d3, d4, d5] => { results := [.lit (.bool true)], args := [d1, d2, d3, d4, d5] }
  | _ => none }
def checkMoreRow : OpenClaim := { program := "ytnfkjodiielidaagreatdoor", sum := "efc7acf3aab8232e77e5d0abd6ed16ac66405dfe4dcb63a4dc125482542ab54f", func := "lunette/lunettelaw14.CheckMore", spec := "checkMore", unfollowed := true, recurses := true, named := ["lunette/rule.words"], loops := true, plainKeys := false, apart := false, laid := [("lunette/rule.words", laid_lunette_rule_words)] }
def CheckMoreSaid : Prop := checkMoreRow.holds Tryz.pinned (OpenSpec.ofChange checkMoreSpec)

/-- ITS FALSE NEIGHBOUR: 'it returns false'. Refute it at one input. -/
def checkMoreWrong : ChangeSpec := { name := "checkMore", fn := fun _ => fun
  | [d1, d2, d3, d4, d5] => { results := [.lit (.bool false)], args := [d1, d2, d3, d4, d5] }
  | _ => none }
def CheckMoreWrongFalsely : Prop := checkMoreRow.holds Tryz.pinned (OpenSpec.ofChange checkMoreWrong)

/- THE SECOND FORM. 'bulk': how many values and letters a reading holds, each counted each time it is reached (what is shared counts as often as it is met; a slice's spare places count too). A statement '..UptoSaid' is the law's where the arguments, and the package variables that the reading takes, are together of bulk at most 1048576: NARROWER than '..Said'. Prove '..Said' where nothing that the law and all that it calls make is longer than what came in: it says more and counts as full. Else prove '..UptoSaid'. A law counts once. -/
mutual
def uptoBulk {H : Type} : DataW H → Nat
  | .lit (.string bytes) => bytes.length + 1
  | .lit _ => 1
  | .nil => 1
  | .ptr d => uptoBulk d + 1
  | .slice elems spare => uptoBulkAll elems + uptoBulkAll spare + 1
  | .agg parts => uptoBulkAll parts + 1
  | .iface _ d => uptoBulk d + 1
  | .map entries => uptoBulkEntries entries + 1
  | .held _ => 1
def uptoBulkAll {H : Type} : List (DataW H) → Nat
  | [] => 0
  | d :: r => uptoBulk d + uptoBulkAll r
def uptoBulkEntries {H : Type} : List (Lit × DataW H) → Nat
  | [] => 0
  | x :: r => uptoBulkEntry x + uptoBulkEntries r
def uptoBulkEntry {H : Type} : Lit × DataW H → Nat
  | (.string bytes, d) => bytes.length + uptoBulk d + 1
  | (_, d) => uptoBulk d + 1
 end
def uptoSmall : (H : Type) → List (DataW H) → Bool := fun _ ds => decide (uptoBulkAll ds ≤ 1048576)
def OpenSpec.upto (s : _root_.Go.ChangeSpec) : _root_.Go.OpenSpec := { _root_.Go.OpenSpec.ofChange s with cond := some uptoSmall }

/-- 'lunettelaw15.ExpandTrees', WHERE WHAT IT READS IS OF BULK AT MOST 1048576: true; the input reads as it did. -/
def expandTreesUptoRow : OpenClaim := { program := "ytnfkjodiielidaagreatdoor", sum := "efc7acf3aab8232e77e5d0abd6ed16ac66405dfe4dcb63a4dc125482542ab54f", func := "lunette/lunettelaw15.ExpandTrees", spec := "expandTrees", unfollowed := true, recurses := true, named := ["lunette/rule.words"], loops := true, plainKeys := false, apart := false, laid := [("lunette/rule.words", laid_lunette_rule_words)], narrowed := true }
def ExpandTreesUptoSaid : Prop := expandTreesUptoRow.holds Tryz.pinned (OpenSpec.upto expandTreesSpec)

/-- 'lunettelaw15.ExpandUsers', WHERE WHAT IT READS IS OF BULK AT MOST 1048576: true; the input reads as it did. -/
def expandUsersUptoRow : OpenClaim := { program := "ytnfkjodiielidaagreatdoor", sum := "efc7acf3aab8232e77e5d0abd6ed16ac66405dfe4dcb63a4dc125482542ab54f", func := "lunette/lunettelaw15.ExpandUsers", spec := "expandUsers", unfollowed := true, recurses := true, named := ["lunette/rule.words"], loops := true, plainKeys := false, apart := false, laid := [("lunette/rule.words", laid_lunette_rule_words)], narrowed := true }
def ExpandUsersUptoSaid : Prop := expandUsersUptoRow.holds Tryz.pinned (OpenSpec.upto expandUsersSpec)

/-- 'lunettelaw15.ExpandWhy', WHERE WHAT IT READS IS OF BULK AT MOST 1048576: true; the input reads as it did. -/
def expandWhyUptoRow : OpenClaim := { program := "ytnfkjodiielidaagreatdoor", sum := "efc7acf3aab8232e77e5d0abd6ed16ac66405dfe4dcb63a4dc125482542ab54f", func := "lunette/lunettelaw15.ExpandWhy", spec := "expandWhy", unfollowed := true, recurses := true, named := ["lunette/rule.words"], loops := true, plainKeys := false, apart := false, laid := [("lunette/rule.words", laid_lunette_rule_words)], narrowed := true }
def ExpandWhyUptoSaid : Prop := expandWhyUptoRow.holds Tryz.pinned (OpenSpec.upto expandWhySpec)

/-- 'lunettelaw15.ExpandBudget', WHERE WHAT IT READS IS OF BULK AT MOST 1048576: true; the input reads as it did. -/
def expandBudgetUptoRow : OpenClaim := { program := "ytnfkjodiielidaagreatdoor", sum := "efc7acf3aab8232e77e5d0abd6ed16ac66405dfe4dcb63a4dc125482542ab54f", func := "lunette/lunettelaw15.ExpandBudget", spec := "expandBudget", unfollowed := true, recurses := true, named := ["lunette/rule.words"], loops := true, plainKeys := false, apart := false, laid := [("lunette/rule.words", laid_lunette_rule_words)], narrowed := true }
def ExpandBudgetUptoSaid : Prop := expandBudgetUptoRow.holds Tryz.pinned (OpenSpec.upto expandBudgetSpec)

/-- 'lunettelaw14.CheckSteps', WHERE WHAT IT READS IS OF BULK AT MOST 1048576: true; the input reads as it did. -/
def checkStepsUptoRow : OpenClaim := { program := "ytnfkjodiielidaagreatdoor", sum := "efc7acf3aab8232e77e5d0abd6ed16ac66405dfe4dcb63a4dc125482542ab54f", func := "lunette/lunettelaw14.CheckSteps", spec := "checkSteps", unfollowed := true, recurses := true, named := ["lunette/rule.words"], loops := true, plainKeys := false, apart := false, laid := [("lunette/rule.words", laid_lunette_rule_words)], narrowed := true }
def CheckStepsUptoSaid : Prop := checkStepsUptoRow.holds Tryz.pinned (OpenSpec.upto checkStepsSpec)

/-- 'lunettelaw15.ExpandOps', WHERE WHAT IT READS IS OF BULK AT MOST 1048576: true; the input reads as it did. -/
def expandOpsUptoRow : OpenClaim := { program := "ytnfkjodiielidaagreatdoor", sum := "efc7acf3aab8232e77e5d0abd6ed16ac66405dfe4dcb63a4dc125482542ab54f", func := "lunette/lunettelaw15.ExpandOps", spec := "expandOps", unfollowed := true, recurses := true, named := ["lunette/rule.words"], loops := true, plainKeys := false, apart := false, laid := [("lunette/rule.words", laid_lunette_rule_words)], narrowed := true }
def ExpandOpsUptoSaid : Prop := expandOpsUptoRow.holds Tryz.pinned (OpenSpec.upto expandOpsSpec)

/-- 'lunettelaw14.CheckNamed', WHERE WHAT IT READS IS OF BULK AT MOST 1048576: true; the input reads as it did. -/
def checkNamedUptoRow : OpenClaim := { program := "ytnfkjodiielidaagreatdoor", sum := "efc7acf3aab8232e77e5d0abd6ed16ac66405dfe4dcb63a4dc125482542ab54f", func := "lunette/lunettelaw14.CheckNamed", spec := "checkNamed", unfollowed := true, recurses := true, named := ["lunette/rule.words"], loops := true, plainKeys := false, apart := false, laid := [("lunette/rule.words", laid_lunette_rule_words)], narrowed := true }
def CheckNamedUptoSaid : Prop := checkNamedUptoRow.holds Tryz.pinned (OpenSpec.upto checkNamedSpec)

/-- 'lunettelaw15.ExpandDeep', WHERE WHAT IT READS IS OF BULK AT MOST 1048576: true; the input reads as it did. -/
def expandDeepUptoRow : OpenClaim := { program := "ytnfkjodiielidaagreatdoor", sum := "efc7acf3aab8232e77e5d0abd6ed16ac66405dfe4dcb63a4dc125482542ab54f", func := "lunette/lunettelaw15.ExpandDeep", spec := "expandDeep", unfollowed := true, recurses := true, named := ["lunette/rule.words"], loops := true, plainKeys := false, apart := false, laid := [("lunette/rule.words", laid_lunette_rule_words)], narrowed := true }
def ExpandDeepUptoSaid : Prop := expandDeepUptoRow.holds Tryz.pinned (OpenSpec.upto expandDeepSpec)

/-- 'lunettelaw15.ExpandFlat', WHERE WHAT IT READS IS OF BULK AT MOST 1048576: true; the input reads as it did. -/
def expandFlatUptoRow : OpenClaim := { program := "ytnfkjodiielidaagreatdoor", sum := "efc7acf3aab8232e77e5d0abd6ed16ac66405dfe4dcb63a4dc125482542ab54f", func := "lunette/lunettelaw15.ExpandFlat", spec := "expandFlat", unfollowed := true, recurses := true, named := ["lunette/rule.words"], loops := true, plainKeys := false, apart := false, laid := [("lunette/rule.words", laid_lunette_rule_words)], narrowed := true }
def ExpandFlatUptoSaid : Prop := expandFlatUptoRow.holds Tryz.pinned (OpenSpec.upto expandFlatSpec)

/-- 'lunettelaw14.CheckDeeper', WHERE WHAT IT READS IS OF BULK AT MOST 1048576: true; the input reads as it did. -/
def checkDeeperUptoRow : OpenClaim := { program := "ytnfkjodiielidaagreatdoor", sum := "efc7acf3aab8232e77e5d0abd6ed16ac66405dfe4dcb63a4dc125482542ab54f", func := "lunette/lunettelaw14.CheckDeeper", spec := "checkDeeper", unfollowed := true, recurses := true, named := ["lunette/rule.words"], loops := true, plainKeys := false, apart := false, laid := [("lunette/rule.words", laid_lunette_rule_words)], narrowed := true }
def CheckDeeperUptoSaid : Prop := checkDeeperUptoRow.holds Tryz.pinned (OpenSpec.upto checkDeeperSpec)

/-- 'lunettelaw14.CheckSets', WHERE WHAT IT READS IS OF BULK AT MOST 1048576: true; the input reads as it did. -/
def checkSetsUptoRow : OpenClaim := { program := "ytnfkjodiielidaagreatdoor", sum := "efc7acf3aab8232e77e5d0abd6ed16ac66405dfe4dcb63a4dc125482542ab54f", func := "lunette/lunettelaw14.CheckSets", spec := "checkSets", unfollowed := true, recurses := true, named := ["lunette/rule.words"], plainKeys := false, apart := false, laid := [("lunette/rule.words", laid_lunette_rule_words)], narrowed := true }
def CheckSetsUptoSaid : Prop := checkSetsUptoRow.holds Tryz.pinned (OpenSpec.upto checkSetsSpec)

/-- 'lunettelaw14.CheckOrder', WHERE WHAT IT READS IS OF BULK AT MOST 1048576: true; the input reads as it did. -/
def checkOrderUptoRow : OpenClaim := { program := "ytnfkjodiielidaagreatdoor", sum := "efc7acf3aab8232e77e5d0abd6ed16ac66405dfe4dcb63a4dc125482542ab54f", func := "lunette/lunettelaw14.CheckOrder", spec := "checkOrder", unfollowed := true, recurses := true, named := ["lunette/rule.words"], loops := true, plainKeys := false, apart := false, laid := [("lunette/rule.words", laid_lunette_rule_words)], narrowed := true }
def CheckOrderUptoSaid : Prop := checkOrderUptoRow.holds Tryz.pinned (OpenSpec.upto checkOrderSpec)

/-- 'lunettelaw14.CheckMore', WHERE WHAT IT READS IS OF BULK AT MOST 1048576: true; the input reads as it did. -/
def checkMoreUptoRow : OpenClaim := { program := "ytnfkjodiielidaagreatdoor", sum := "efc7acf3aab8232e77e5d0abd6ed16ac66405dfe4dcb63a4dc125482542ab54f", func := "lunette/lunettelaw14.CheckMore", spec := "checkMore", unfollowed := true, recurses := true, named := ["lunette/rule.words"], loops := true, plainKeys := false, apart := false, laid := [("lunette/rule.words", laid_lunette_rule_words)], narrowed := true }
def CheckMoreUptoSaid : Prop := checkMoreUptoRow.holds Tryz.pinned (OpenSpec.upto checkMoreSpec)

end Rows
end Go.Proofs.YtnfkjodiielidaaGreatDoor

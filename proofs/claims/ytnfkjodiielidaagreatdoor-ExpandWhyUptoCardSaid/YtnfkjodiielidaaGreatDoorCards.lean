/-
  DERIVED. GIVEN WITH THE SEED: THE CARDS: each row of YtnfkjodiielidaaGreatDoorRows.lean that lists a variable, with what it lists TIED to the program's text (the seventh form; the later family's looks); each row that meets fmt, with fmt's text TOLD by the authors' own Lean function (tested against real Go, not proved from fmt's source: count such statements apart). THE CARD IS WHAT COUNTS. Prove the row's statement (the work); the ties are given (YtnfkjodiielidaaGreatDoorTie.lean); close each card by the builder's one call (the guide's Derived/Test/ToyasCard.lean, 'card_holds'). Laid BY PROGRAM, IN A SANDBOX (cutbox-door.mjs). By AI agents, Wed Nov 11 2026. No macro, syntax, notation, axiom, sorry.
-/
import Derived.Test.YtnfkjodiielidaaGreatDoorRows
import GoSem.ClaimSeven
namespace Go.Proofs.YtnfkjodiielidaaGreatDoor
namespace Rows

/-- THE TIED CARD OF 'lunettelaw15.ExpandTrees'. -/
def expandTreesCard : Claim7 := { stood := { row := expandTreesRow, standIns := [], harness := (true, "92de865ecfd0052c17fe6c53b665aa9e140a1c0abb4fe9bcc6a834fbc5bb0f60"), looks := false }, kinds := [], alts := [], laidByText := true, laidKinds := [.widerDeep], laidTests := true, laidLooks := .later }
def ExpandTreesCardSaid : Prop := Claim7.holds Tryz.pinned (.plain (OpenSpec.ofChange expandTreesSpec)) expandTreesCard

/-- THE TIED CARD OF 'lunettelaw15.ExpandUsers'. -/
def expandUsersCard : Claim7 := { stood := { row := expandUsersRow, standIns := [], harness := (true, "92de865ecfd0052c17fe6c53b665aa9e140a1c0abb4fe9bcc6a834fbc5bb0f60"), looks := false }, kinds := [], alts := [], laidByText := true, laidKinds := [.widerDeep], laidTests := true, laidLooks := .later }
def ExpandUsersCardSaid : Prop := Claim7.holds Tryz.pinned (.plain (OpenSpec.ofChange expandUsersSpec)) expandUsersCard

/-- THE TIED CARD OF 'lunettelaw15.ExpandWhy'. -/
def expandWhyCard : Claim7 := { stood := { row := expandWhyRow, standIns := [], harness := (true, "92de865ecfd0052c17fe6c53b665aa9e140a1c0abb4fe9bcc6a834fbc5bb0f60"), looks := false }, kinds := [], alts := [], laidByText := true, laidKinds := [.widerDeep], laidTests := true, laidLooks := .later }
def ExpandWhyCardSaid : Prop := Claim7.holds Tryz.pinned (.plain (OpenSpec.ofChange expandWhySpec)) expandWhyCard

/-- THE TIED CARD OF 'lunettelaw15.ExpandBudget'. -/
def expandBudgetCard : Claim7 := { stood := { row := expandBudgetRow, standIns := [], harness := (true, "92de865ecfd0052c17fe6c53b665aa9e140a1c0abb4fe9bcc6a834fbc5bb0f60"), looks := false }, kinds := [], alts := [], laidByText := true, laidKinds := [.widerDeep], laidTests := true, laidLooks := .later }
def ExpandBudgetCardSaid : Prop := Claim7.holds Tryz.pinned (.plain (OpenSpec.ofChange expandBudgetSpec)) expandBudgetCard

/-- THE TIED CARD OF 'lunettelaw14.CheckSteps'. -/
def checkStepsCard : Claim7 := { stood := { row := checkStepsRow, standIns := [], harness := (true, "92de865ecfd0052c17fe6c53b665aa9e140a1c0abb4fe9bcc6a834fbc5bb0f60"), looks := false }, kinds := [], alts := [], laidByText := true, laidKinds := [.widerDeep], laidTests := true, laidLooks := .later }
def CheckStepsCardSaid : Prop := Claim7.holds Tryz.pinned (.plain (OpenSpec.ofChange checkStepsSpec)) checkStepsCard

/-- THE TIED CARD OF 'lunettelaw15.ExpandOps'. -/
def expandOpsCard : Claim7 := { stood := { row := expandOpsRow, standIns := [], harness := (true, "92de865ecfd0052c17fe6c53b665aa9e140a1c0abb4fe9bcc6a834fbc5bb0f60"), looks := false }, kinds := [], alts := [], laidByText := true, laidKinds := [.widerDeep], laidTests := true, laidLooks := .later }
def ExpandOpsCardSaid : Prop := Claim7.holds Tryz.pinned (.plain (OpenSpec.ofChange expandOpsSpec)) expandOpsCard

/-- THE TIED CARD OF 'lunettelaw14.CheckNamed'. -/
def checkNamedCard : Claim7 := { stood := { row := checkNamedRow, standIns := [], harness := (true, "92de865ecfd0052c17fe6c53b665aa9e140a1c0abb4fe9bcc6a834fbc5bb0f60"), looks := false }, kinds := [], alts := [], laidByText := true, laidKinds := [.widerDeep], laidTests := true, laidLooks := .later }
def CheckNamedCardSaid : Prop := Claim7.holds Tryz.pinned (.plain (OpenSpec.ofChange checkNamedSpec)) checkNamedCard

/-- THE TIED CARD OF 'lunettelaw15.ExpandDeep'. -/
def expandDeepCard : Claim7 := { stood := { row := expandDeepRow, standIns := [], harness := (true, "92de865ecfd0052c17fe6c53b665aa9e140a1c0abb4fe9bcc6a834fbc5bb0f60"), looks := false }, kinds := [], alts := [], laidByText := true, laidKinds := [.widerDeep], laidTests := true, laidLooks := .later }
def ExpandDeepCardSaid : Prop := Claim7.holds Tryz.pinned (.plain (OpenSpec.ofChange expandDeepSpec)) expandDeepCard

/-- THE TIED CARD OF 'lunettelaw15.ExpandFlat'. -/
def expandFlatCard : Claim7 := { stood := { row := expandFlatRow, standIns := [], harness := (true, "92de865ecfd0052c17fe6c53b665aa9e140a1c0abb4fe9bcc6a834fbc5bb0f60"), looks := false }, kinds := [], alts := [], laidByText := true, laidKinds := [.widerDeep], laidTests := true, laidLooks := .later }
def ExpandFlatCardSaid : Prop := Claim7.holds Tryz.pinned (.plain (OpenSpec.ofChange expandFlatSpec)) expandFlatCard

/-- THE TIED CARD OF 'lunettelaw14.CheckDeeper'. -/
def checkDeeperCard : Claim7 := { stood := { row := checkDeeperRow, standIns := [], harness := (true, "92de865ecfd0052c17fe6c53b665aa9e140a1c0abb4fe9bcc6a834fbc5bb0f60"), looks := false }, kinds := [], alts := [], laidByText := true, laidKinds := [.widerDeep], laidTests := true, laidLooks := .later }
def CheckDeeperCardSaid : Prop := Claim7.holds Tryz.pinned (.plain (OpenSpec.ofChange checkDeeperSpec)) checkDeeperCard

/-- THE TIED CARD OF 'lunettelaw14.CheckSets'. -/
def checkSetsCard : Claim7 := { stood := { row := checkSetsRow, standIns := [], harness := (true, "92de865ecfd0052c17fe6c53b665aa9e140a1c0abb4fe9bcc6a834fbc5bb0f60"), looks := false }, kinds := [], alts := [], laidByText := true, laidKinds := [.widerDeep], laidTests := true, laidLooks := .later }
def CheckSetsCardSaid : Prop := Claim7.holds Tryz.pinned (.plain (OpenSpec.ofChange checkSetsSpec)) checkSetsCard

/-- THE TIED CARD OF 'lunettelaw14.CheckOrder'. -/
def checkOrderCard : Claim7 := { stood := { row := checkOrderRow, standIns := [], harness := (true, "92de865ecfd0052c17fe6c53b665aa9e140a1c0abb4fe9bcc6a834fbc5bb0f60"), looks := false }, kinds := [], alts := [], laidByText := true, laidKinds := [.widerDeep], laidTests := true, laidLooks := .later }
def CheckOrderCardSaid : Prop := Claim7.holds Tryz.pinned (.plain (OpenSpec.ofChange checkOrderSpec)) checkOrderCard

/-- THE TIED CARD OF 'lunettelaw14.CheckMore'. -/
def checkMoreCard : Claim7 := { stood := { row := checkMoreRow, standIns := [], harness := (true, "92de865ecfd0052c17fe6c53b665aa9e140a1c0abb4fe9bcc6a834fbc5bb0f60"), looks := false }, kinds := [], alts := [], laidByText := true, laidKinds := [.widerDeep], laidTests := true, laidLooks := .later }
def CheckMoreCardSaid : Prop := Claim7.holds Tryz.pinned (.plain (OpenSpec.ofChange checkMoreSpec)) checkMoreCard

/-- THE SECOND FORM's CARD OF 'lunettelaw15.ExpandTrees'. -/
def expandTreesUptoCard : Claim7 := { stood := { row := expandTreesUptoRow, standIns := [], harness := (true, "92de865ecfd0052c17fe6c53b665aa9e140a1c0abb4fe9bcc6a834fbc5bb0f60"), looks := false }, kinds := [], alts := [], laidByText := true, laidKinds := [.widerDeep], laidTests := true, laidLooks := .later }
def ExpandTreesUptoCardSaid : Prop := Claim7.holds Tryz.pinned (.plain (OpenSpec.upto expandTreesSpec)) expandTreesUptoCard

/-- THE SECOND FORM's CARD OF 'lunettelaw15.ExpandUsers'. -/
def expandUsersUptoCard : Claim7 := { stood := { row := expandUsersUptoRow, standIns := [], harness := (true, "92de865ecfd0052c17fe6c53b665aa9e140a1c0abb4fe9bcc6a834fbc5bb0f60"), looks := false }, kinds := [], alts := [], laidByText := true, laidKinds := [.widerDeep], laidTests := true, laidLooks := .later }
def ExpandUsersUptoCardSaid : Prop := Claim7.holds Tryz.pinned (.plain (OpenSpec.upto expandUsersSpec)) expandUsersUptoCard

/-- THE SECOND FORM's CARD OF 'lunettelaw15.ExpandWhy'. -/
def expandWhyUptoCard : Claim7 := { stood := { row := expandWhyUptoRow, standIns := [], harness := (true, "92de865ecfd0052c17fe6c53b665aa9e140a1c0abb4fe9bcc6a834fbc5bb0f60"), looks := false }, kinds := [], alts := [], laidByText := true, laidKinds := [.widerDeep], laidTests := true, laidLooks := .later }
def ExpandWhyUptoCardSaid : Prop := Claim7.holds Tryz.pinned (.plain (OpenSpec.upto expandWhySpec)) expandWhyUptoCard

/-- THE SECOND FORM's CARD OF 'lunettelaw15.ExpandBudget'. -/
def expandBudgetUptoCard : Claim7 := { stood := { row := expandBudgetUptoRow, standIns := [], harness := (true, "92de865ecfd0052c17fe6c53b665aa9e140a1c0abb4fe9bcc6a834fbc5bb0f60"), looks := false }, kinds := [], alts := [], laidByText := true, laidKinds := [.widerDeep], laidTests := true, laidLooks := .later }
def ExpandBudgetUptoCardSaid : Prop := Claim7.holds Tryz.pinned (.plain (OpenSpec.upto expandBudgetSpec)) expandBudgetUptoCard

/-- THE SECOND FORM's CARD OF 'lunettelaw14.CheckSteps'. -/
def checkStepsUptoCard : Claim7 := { stood := { row := checkStepsUptoRow, standIns := [], harness := (true, "92de865ecfd0052c17fe6c53b665aa9e140a1c0abb4fe9bcc6a834fbc5bb0f60"), looks := false }, kinds := [], alts := [], laidByText := true, laidKinds := [.widerDeep], laidTests := true, laidLooks := .later }
def CheckStepsUptoCardSaid : Prop := Claim7.holds Tryz.pinned (.plain (OpenSpec.upto checkStepsSpec)) checkStepsUptoCard

/-- THE SECOND FORM's CARD OF 'lunettelaw15.ExpandOps'. -/
def expandOpsUptoCard : Claim7 := { stood := { row := expandOpsUptoRow, standIns := [], harness := (true, "92de865ecfd0052c17fe6c53b665aa9e140a1c0abb4fe9bcc6a834fbc5bb0f60"), looks := false }, kinds := [], alts := [], laidByText := true, laidKinds := [.widerDeep], laidTests := true, laidLooks := .later }
def ExpandOpsUptoCardSaid : Prop := Claim7.holds Tryz.pinned (.plain (OpenSpec.upto expandOpsSpec)) expandOpsUptoCard

/-- THE SECOND FORM's CARD OF 'lunettelaw14.CheckNamed'. -/
def checkNamedUptoCard : Claim7 := { stood := { row := checkNamedUptoRow, standIns := [], harness := (true, "92de865ecfd0052c17fe6c53b665aa9e140a1c0abb4fe9bcc6a834fbc5bb0f60"), looks := false }, kinds := [], alts := [], laidByText := true, laidKinds := [.widerDeep], laidTests := true, laidLooks := .later }
def CheckNamedUptoCardSaid : Prop := Claim7.holds Tryz.pinned (.plain (OpenSpec.upto checkNamedSpec)) checkNamedUptoCard

/-- THE SECOND FORM's CARD OF 'lunettelaw15.ExpandDeep'. -/
def expandDeepUptoCard : Claim7 := { stood := { row := expandDeepUptoRow, standIns := [], harness := (true, "92de865ecfd0052c17fe6c53b665aa9e140a1c0abb4fe9bcc6a834fbc5bb0f60"), looks := false }, kinds := [], alts := [], laidByText := true, laidKinds := [.widerDeep], laidTests := true, laidLooks := .later }
def ExpandDeepUptoCardSaid : Prop := Claim7.holds Tryz.pinned (.plain (OpenSpec.upto expandDeepSpec)) expandDeepUptoCard

/-- THE SECOND FORM's CARD OF 'lunettelaw15.ExpandFlat'. -/
def expandFlatUptoCard : Claim7 := { stood := { row := expandFlatUptoRow, standIns := [], harness := (true, "92de865ecfd0052c17fe6c53b665aa9e140a1c0abb4fe9bcc6a834fbc5bb0f60"), looks := false }, kinds := [], alts := [], laidByText := true, laidKinds := [.widerDeep], laidTests := true, laidLooks := .later }
def ExpandFlatUptoCardSaid : Prop := Claim7.holds Tryz.pinned (.plain (OpenSpec.upto expandFlatSpec)) expandFlatUptoCard

/-- THE SECOND FORM's CARD OF 'lunettelaw14.CheckDeeper'. -/
def checkDeeperUptoCard : Claim7 := { stood := { row := checkDeeperUptoRow, standIns := [], harness := (true, "92de865ecfd0052c17fe6c53b665aa9e140a1c0abb4fe9bcc6a834fbc5bb0f60"), looks := false }, kinds := [], alts := [], laidByText := true, laidKinds := [.widerDeep], laidTests := true, laidLooks := .later }
def CheckDeeperUptoCardSaid : Prop := Claim7.holds Tryz.pinned (.plain (OpenSpec.upto checkDeeperSpec)) checkDeeperUptoCard

/-- THE SECOND FORM's CARD OF 'lunettelaw14.CheckSets'. -/
def checkSetsUptoCard : Claim7 := { stood := { row := checkSetsUptoRow, standIns := [], harness := (true, "92de865ecfd0052c17fe6c53b665aa9e140a1c0abb4fe9bcc6a834fbc5bb0f60"), looks := false }, kinds := [], alts := [], laidByText := true, laidKinds := [.widerDeep], laidTests := true, laidLooks := .later }
def CheckSetsUptoCardSaid : Prop := Claim7.holds Tryz.pinned (.plain (OpenSpec.upto checkSetsSpec)) checkSetsUptoCard

/-- THE SECOND FORM's CARD OF 'lunettelaw14.CheckOrder'. -/
def checkOrderUptoCard : Claim7 := { stood := { row := checkOrderUptoRow, standIns := [], harness := (true, "92de865ecfd0052c17fe6c53b665aa9e140a1c0abb4fe9bcc6a834fbc5bb0f60"), looks := false }, kinds := [], alts := [], laidByText := true, laidKinds := [.widerDeep], laidTests := true, laidLooks := .later }
def CheckOrderUptoCardSaid : Prop := Claim7.holds Tryz.pinned (.plain (OpenSpec.upto checkOrderSpec)) checkOrderUptoCard

/-- THE SECOND FORM's CARD OF 'lunettelaw14.CheckMore'. -/
def checkMoreUptoCard : Claim7 := { stood := { row := checkMoreUptoRow, standIns := [], harness := (true, "92de865ecfd0052c17fe6c53b665aa9e140a1c0abb4fe9bcc6a834fbc5bb0f60"), looks := false }, kinds := [], alts := [], laidByText := true, laidKinds := [.widerDeep], laidTests := true, laidLooks := .later }
def CheckMoreUptoCardSaid : Prop := Claim7.holds Tryz.pinned (.plain (OpenSpec.upto checkMoreSpec)) checkMoreUptoCard
end Rows
end Go.Proofs.YtnfkjodiielidaaGreatDoor

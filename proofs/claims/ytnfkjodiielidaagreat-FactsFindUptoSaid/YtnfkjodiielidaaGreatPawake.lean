/- The chapter's example: what the plain laws say of it. -/
import Derived.Test.YtnfkjodiielidaaGreatWobjects
import Derived.Test.YtnfkjodiielidaaGreatWffind
import Derived.Test.YtnfkjodiielidaaGreatWref13
import Derived.Test.YtnfkjodiielidaaGreatWusers
namespace Go.Proofs.YtnfkjodiielidaaGreat
set_option linter.unusedVariables false
set_option linter.unusedSimpArgs false
open Go.RowKit

def xDoc : ByteArray := ⟨#[100, 111, 99]⟩
def xA : ByteArray := ⟨#[97]⟩
def xB : ByteArray := ⟨#[98]⟩
def xViewer : ByteArray := ⟨#[118, 105, 101, 119, 101, 114]⟩
def xUser : ByteArray := ⟨#[117, 115, 101, 114]⟩
def xNo : ByteArray := ⟨#[]⟩
def tA : LTuple := ⟨xDoc, xA, xViewer, ⟨xUser, xA, xNo⟩⟩
def tB : LTuple := ⟨xDoc, xA, xViewer, ⟨xUser, xB, xNo⟩⟩
def tZ : LTuple := ⟨xNo, xNo, xNo, ⟨xNo, xNo, xNo⟩⟩
def fDoc : LTuple := ⟨xDoc, xNo, xNo, ⟨xNo, xNo, xNo⟩⟩
theorem aw_new : newS [tB, tA, tB, tZ] = [tB, tA] := by decide +kernel
theorem aw_users : usersOf [tB, tA] xDoc xA xViewer = [tA.user, tB.user] := by decide +kernel
theorem aw_all : canon tLess [tB, tA] = [tA, tB] := by decide +kernel
theorem aw_find : ((canon tLess [tB, tA]).filter (meansB fDoc)).take (9 : Int).toNat = [tA, tB] := by decide +kernel
theorem aw_objects : (objectsOf [tB, tA] xUser).length = 2 := by decide +kernel
theorem aw_people : (peopleOf [tB, tA]).length = 2 := by decide +kernel
theorem aw_has : decide (tA ∈ [tB, tA]) = true := by decide +kernel
theorem aw_put : mayPut [tB, tA] tA = false := by decide +kernel
theorem aw_putS : putS [tB, tA] tA = [tB, tA] := by decide +kernel
theorem aw_drop : dropS [tB, tA] tA = [tB] := by decide +kernel
theorem aw_put2 : mayPut [tB] tA = true := by decide +kernel
end Go.Proofs.YtnfkjodiielidaaGreat

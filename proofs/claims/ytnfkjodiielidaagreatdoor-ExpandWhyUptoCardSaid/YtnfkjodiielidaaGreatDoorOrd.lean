/- Orders of texts, of lists of texts, of users and tuples; the one list that holds the members of a list, each once, rising. -/
/- Rules, as plain data: which may be, what is found. -/
import Derived.Test.YtnfkjodiielidaaGreatDoorRep
namespace Go.Proofs.YtnfkjodiielidaaGreatDoor
set_option linter.unusedVariables false
set_option linter.unusedSimpArgs false
open Go.RowKit

/-- A strict order of which any two that differ are one ahead of the other. -/
structure Lin {α : Type} (lt : α → α → Bool) : Prop where
  irrefl : ∀ x, lt x x = false
  trans : ∀ x y z, lt x y = true → lt y z = true → lt x z = true
  tri : ∀ x y, lt x y = false → lt y x = false → x = y

theorem Lin.asymm {α : Type} {lt : α → α → Bool} (L : Lin lt) {x y : α} (h : lt x y = true) : lt y x = false := by
  cases h2 : lt y x with
  | false => rfl
  | true => have := L.trans _ _ _ h h2; rw [L.irrefl] at this; cases this
theorem Lin.ne {α : Type} {lt : α → α → Bool} (L : Lin lt) {x y : α} (h : lt x y = true) : x ≠ y := by
  rintro rfl; rw [L.irrefl] at h; cases h

def lexB {α : Type} [DecidableEq α] (lt : α → α → Bool) : List α → List α → Bool
  | _, [] => false
  | [], _ :: _ => true
  | a :: x, b :: y => lt a b || (decide (a = b) && lexB lt x y)

theorem lexB_lin {α : Type} [DecidableEq α] {lt : α → α → Bool} (L : Lin lt) : Lin (lexB lt) where
  irrefl x := by induction x with
    | nil => rfl
    | cons a x ih => simp [lexB, L.irrefl, ih]
  trans x := by
    induction x with
    | nil =>
      intro y z h1 h2
      cases y with
      | nil => cases h1
      | cons b y => cases z with
        | nil => cases h2
        | cons c z => rfl
    | cons a x ih =>
      intro y z h1 h2
      cases y with
      | nil => cases h1
      | cons b y => cases z with
        | nil => cases h2
        | cons c z =>
          simp only [lexB, Bool.or_eq_true, Bool.and_eq_true, decide_eq_true_eq] at h1 h2 ⊢
          rcases h1 with h1 | ⟨rfl, h1⟩
          · rcases h2 with h2 | ⟨rfl, h2⟩
            · exact .inl (L.trans _ _ _ h1 h2)
            · exact .inl h1
          · rcases h2 with h2 | ⟨rfl, h2⟩
            · exact .inl h2
            · exact .inr ⟨rfl, ih _ _ h1 h2⟩
  tri x := by
    induction x with
    | nil =>
      intro y h1 h2
      cases y with
      | nil => rfl
      | cons b y => cases h1
    | cons a x ih =>
      intro y h1 h2
      cases y with
      | nil => cases h2
      | cons b y =>
        simp only [lexB, Bool.or_eq_false_iff, Bool.and_eq_false_iff] at h1 h2
        have e := L.tri _ _ h1.1 h2.1
        subst e
        simp at h1 h2
        rw [ih y h1.2 h2.2]

/-- A text comes ahead of another one. -/
def ltS (a b : ByteArray) : Bool := Op.bytesLess a.toList b.toList
theorem bytesLess_lex (a b : List UInt8) : Op.bytesLess a b = lexB (fun a b : UInt8 => decide (a < b)) a b := by
  induction a generalizing b with
  | nil => cases b <;> simp [Op.bytesLess, lexB]
  | cons x a ih => cases b with
    | nil => simp [Op.bytesLess, lexB]
    | cons y b => simp only [Op.bytesLess, lexB, ih]; rw [show (x == y) = decide (x = y) from by rw [Bool.eq_iff_iff]; simp]
theorem lin_u8 : Lin (fun a b : UInt8 => decide (a < b)) where
  irrefl x := by simp [UInt8.lt_iff_toNat_lt]
  trans x y z := by simp only [decide_eq_true_eq, UInt8.lt_iff_toNat_lt]; omega
  tri x y := by simp only [decide_eq_false_iff_not, UInt8.lt_iff_toNat_lt]; intro h1 h2; exact UInt8.toNat_inj.1 (by omega)
theorem bytes_toList_inj {a b : ByteArray} (h : a.toList = b.toList) : a = b := by
  rw [ByteArray.toList_eq, ByteArray.toList_eq] at h
  cases a; cases b
  simpa using h
theorem toList_beq (x y : ByteArray) : (x.toList == y.toList) = decide (x = y) := by
  rw [Bool.eq_iff_iff]; simp; exact ⟨fun h => bytes_toList_inj h, fun h => by rw [h]⟩
theorem toList_eq_iff (x y : ByteArray) : x.toList = y.toList ↔ x = y := ⟨fun h => bytes_toList_inj h, fun h => by rw [h]⟩
theorem lin_ltS : Lin ltS where
  irrefl x := by unfold ltS; rw [bytesLess_lex]; exact (lexB_lin lin_u8).irrefl _
  trans x y z := by unfold ltS; simp only [bytesLess_lex]; exact (lexB_lin lin_u8).trans _ _ _
  tri x y := by unfold ltS; simp only [bytesLess_lex]; intro h1 h2; exact bytes_toList_inj ((lexB_lin lin_u8).tri _ _ h1 h2)
/-- Lists of texts. -/
def ltL (a b : List ByteArray) : Bool := lexB ltS a b
theorem lin_ltL : Lin ltL := lexB_lin lin_ltS
theorem Lin.of_inj {α β : Type} {lt : β → β → Bool} (L : Lin lt) (f : α → β) (hf : ∀ x y, f x = f y → x = y) : Lin (fun x y => lt (f x) (f y)) where
  irrefl x := L.irrefl _
  trans x y z := L.trans _ _ _
  tri x y h1 h2 := hf _ _ (L.tri _ _ h1 h2)
def uLess (a b : LUser) : Bool := ltL a.strs b.strs
def tLess (a b : LTuple) : Bool := ltL a.strs b.strs
theorem lin_uLess : Lin uLess := lin_ltL.of_inj LUser.strs (by rintro ⟨a, b, c⟩ ⟨a', b', c'⟩ h; simpa [LUser.strs] using h)
theorem lin_tLess : Lin tLess := lin_ltL.of_inj LTuple.strs (by rintro ⟨a, b, c, ⟨d, e, f⟩⟩ ⟨a', b', c', ⟨d', e', f'⟩⟩ h; simpa [LTuple.strs, and_assoc] using h)

/-! ### Each once, rising -/
def Rising {α : Type} (lt : α → α → Bool) (l : List α) : Prop := l.Pairwise fun x y => lt x y = true
theorem Rising.ext {α : Type} {lt : α → α → Bool} (L : Lin lt) {l l' : List α} (h : Rising lt l) (h' : Rising lt l') (hm : ∀ x, x ∈ l ↔ x ∈ l') : l = l' := by
  induction l generalizing l' with
  | nil =>
    cases l' with
    | nil => rfl
    | cons y l' => exact absurd ((hm y).2 (by simp)) (by simp)
  | cons x l ih =>
    cases l' with
    | nil => exact absurd ((hm x).1 (by simp)) (by simp)
    | cons y l' =>
      have hx := List.pairwise_cons.1 h
      have hy := List.pairwise_cons.1 h'
      have e : x = y := by
        rcases List.mem_cons.1 ((hm x).1 (by simp)) with e | hxm
        · exact e
        · rcases List.mem_cons.1 ((hm y).2 (by simp)) with e | hym
          · exact e.symm
          · have h1 := hx.1 _ hym
            have h2 := hy.1 _ hxm
            rw [L.asymm h1] at h2; cases h2
      subst e
      congr 1
      refine ih hx.2 hy.2 fun z => ?_
      constructor
      · intro hz
        rcases List.mem_cons.1 ((hm z).1 (by simp [hz])) with e | h3
        · subst e; exact absurd rfl (L.ne (hx.1 _ hz))
        · exact h3
      · intro hz
        rcases List.mem_cons.1 ((hm z).2 (by simp [hz])) with e | h3
        · subst e; exact absurd rfl (L.ne (hy.1 _ hz))
        · exact h3
theorem Rising.nodup {α : Type} {lt : α → α → Bool} (L : Lin lt) {l : List α} (h : Rising lt l) : l.Nodup := h.imp fun h => L.ne h
theorem Rising.filter {α : Type} {lt : α → α → Bool} {l : List α} (h : Rising lt l) (p : α → Bool) : Rising lt (l.filter p) := List.Pairwise.filter p h
/-- One more, in its place; one that is there already stays once. -/
def ins {α : Type} [DecidableEq α] (lt : α → α → Bool) (x : α) : List α → List α
  | [] => [x]
  | y :: l => if lt x y then x :: y :: l else if x = y then y :: l else y :: ins lt x l
def canon {α : Type} [DecidableEq α] (lt : α → α → Bool) : List α → List α
  | [] => []
  | x :: l => ins lt x (canon lt l)
section
variable {α : Type} [DecidableEq α] {lt : α → α → Bool}
theorem mem_ins (x z : α) (l : List α) : z ∈ ins lt x l ↔ z = x ∨ z ∈ l := by
  induction l with
  | nil => simp [ins]
  | cons y l ih =>
    unfold ins
    split
    · simp
    · split
      · rename_i h; subst h; simp
      · simp [ih]; constructor <;> (rintro (h | h | h) <;> simp [h])
theorem mem_canon (z : α) (l : List α) : z ∈ canon lt l ↔ z ∈ l := by
  induction l with
  | nil => simp [canon]
  | cons x l ih => simp [canon, mem_ins, ih]
theorem rising_ins (L : Lin lt) (x : α) {l : List α} (h : Rising lt l) : Rising lt (ins lt x l) := by
  induction l with
  | nil => exact List.pairwise_singleton _ _
  | cons y l ih =>
    have hy := List.pairwise_cons.1 h
    unfold ins
    split
    · rename_i hxy
      exact List.pairwise_cons.2 ⟨fun z hz => by
        rcases List.mem_cons.1 hz with e | hz
        · subst e; exact hxy
        · exact L.trans _ _ _ hxy (hy.1 _ hz), h⟩
    · split
      · exact h
      · rename_i h1 h2
        refine List.pairwise_cons.2 ⟨fun z hz => ?_, ih hy.2⟩
        rcases (mem_ins x z l).1 hz with e | hz
        · subst e
          cases h3 : lt y z with
          | true => rfl
          | false => exact absurd (L.tri _ _ (by simpa using h1) h3) h2
        · exact hy.1 _ hz
theorem rising_canon (L : Lin lt) (l : List α) : Rising lt (canon lt l) := by
  induction l with
  | nil => exact List.Pairwise.nil
  | cons x l ih => exact rising_ins L x ih
theorem canon_ext (L : Lin lt) {l l' : List α} (h : ∀ x, x ∈ l ↔ x ∈ l') : canon lt l = canon lt l' :=
  (rising_canon L l).ext L (rising_canon L l') fun x => by rw [mem_canon, mem_canon, h]
theorem eq_canon (L : Lin lt) {l l' : List α} (h : Rising lt l') (hm : ∀ x, x ∈ l' ↔ x ∈ l) : l' = canon lt l :=
  h.ext L (rising_canon L l) fun x => by rw [mem_canon, hm]
theorem canon_rising (L : Lin lt) {l : List α} (h : Rising lt l) : canon lt l = l := (eq_canon L h fun _ => Iff.rfl).symm
theorem canon_filter (L : Lin lt) (p : α → Bool) (l : List α) : (canon lt l).filter p = canon lt (l.filter p) :=
  eq_canon L ((rising_canon L l).filter p) fun x => by simp [mem_canon]
theorem canon_length_le (l : List α) : (canon lt l).length ≤ l.length := by
  have hi : ∀ (x : α) (l : List α), (ins lt x l).length ≤ l.length + 1 := by
    intro x l
    induction l with
    | nil => simp [ins]
    | cons y l ih => unfold ins; split <;> (try split) <;> simp_all
  induction l with
  | nil => simp [canon]
  | cons x l ih => have := hi x (canon lt l); simp [canon]; omega
/-- What a sort leaves, of members that differ: the one list. -/
theorem sorted_eq_canon (L : Lin lt) {l l' : List α} (hp : l'.Perm l) (hn : l.Nodup) (hs : l'.Pairwise fun x y => lt y x = false) : l' = canon lt l := by
  refine eq_canon L ?_ fun x => hp.mem_iff
  have hn' : l'.Nodup := hp.nodup_iff.2 hn
  have h2 := hs.and hn'
  exact h2.imp fun {a b} h => by
    cases h3 : lt a b with
    | true => rfl
    | false => exact absurd (L.tri _ _ h3 h.1) h.2
end
end Go.Proofs.YtnfkjodiielidaaGreatDoor
namespace Go.Proofs.YtnfkjodiielidaaGreatDoor
set_option linter.unusedVariables false
set_option linter.unusedSimpArgs false
open Go.RowKit

abbrev bs (l : List UInt8) : ByteArray := ⟨l.toArray⟩
def sThis : ByteArray := ⟨#[116, 104, 105, 115]⟩
def sRel : ByteArray := ⟨#[114, 101, 108]⟩
def sFrom : ByteArray := ⟨#[102, 114, 111, 109]⟩
def sOr : ByteArray := ⟨#[111, 114]⟩
def sAnd : ByteArray := ⟨#[97, 110, 100]⟩
def sBut : ByteArray := ⟨#[98, 117, 116]⟩
def sKind : ByteArray := ⟨#[107, 105, 110, 100]⟩
def sNone : ByteArray := ⟨#[110, 111, 110, 101]⟩
def sEmpty : ByteArray := ⟨#[]⟩
def words : List ByteArray := [sThis, sOr, sAnd, sBut, sFrom, sKind]

def e0 : LExpr := .mk sEmpty sEmpty sEmpty []
instance : Inhabited LExpr := ⟨e0⟩
def r0 : LRule := ⟨sEmpty, e0⟩
instance : Inhabited LRule := ⟨r0⟩
def k0 : LKind := ⟨sEmpty, []⟩
instance : Inhabited LKind := ⟨k0⟩
def t0 : LTree := .mk sEmpty [] []
instance : Inhabited LTree := ⟨t0⟩

namespace LExpr
/-- How many parts, as an int counts. -/
def size : LExpr → Int
  | mk _ _ _ p => (p.attach.map fun ⟨x, _⟩ => x.size).foldl (fun n k => wrap64 (n + k)) 1
theorem size_eq (e : LExpr) : e.size = (e.parts.map size).foldl (fun n k => wrap64 (n + k)) 1 := by
  cases e with
  | mk o n f p => simp [size, parts]
/-- How deep, as an int counts. -/
def deep : LExpr → Int
  | mk _ _ _ p => wrap64 ((p.attach.map fun ⟨x, _⟩ => x.deep).foldl (fun n k => if n < k then k else n) 0 + 1)
theorem deep_eq (e : LExpr) : e.deep = wrap64 ((e.parts.map deep).foldl (fun n k => if n < k then k else n) 0 + 1) := by
  cases e with
  | mk o n f p => simp [deep, parts]
/-- Something holds of an expression, and of all its parts. -/
def all (q : LExpr → Bool) : LExpr → Bool
  | mk o n f p => q (mk o n f p) && (p.attach.map fun ⟨x, _⟩ => x.all q).all id
theorem all_eq (q : LExpr → Bool) (e : LExpr) : e.all q = (q e && e.parts.all fun x => x.all q) := by
  cases e with
  | mk o n f p =>
    simp only [all, parts]
    congr 1
    simp [List.all_map, Function.comp_def]
/-- No list in it is longer than a million. -/
def slim (e : LExpr) : Bool := e.all fun x => decide (x.parts.length ≤ 1000000)
theorem slim_len {e : LExpr} (h : e.slim = true) : e.parts.length ≤ 1000000 := by
  unfold slim at h; rw [all_eq] at h; simp at h; exact h.1
theorem slim_part {e x : LExpr} (h : e.slim = true) (hx : x ∈ e.parts) : x.slim = true := by
  unfold slim at h ⊢; rw [all_eq] at h; simp at h; exact h.2 x hx
end LExpr
/-- Has an expression a form, but for its parts? -/
def formB (e : LExpr) : Bool :=
  if e.op = sThis then decide (e.name.size = 0) && decide (e.of.size = 0) && decide (e.parts.length = 0)
  else if e.op = sRel then decide (e.of.size = 0) && decide (e.parts.length = 0)
  else if e.op = sFrom then decide (e.parts.length = 0)
  else if e.op = sOr ∨ e.op = sAnd then decide (e.name.size = 0) && decide (e.of.size = 0) && decide (2 ≤ e.parts.length)
  else if e.op = sBut then decide (e.name.size = 0) && decide (e.of.size = 0) && decide (e.parts.length = 2)
  else false
end Go.Proofs.YtnfkjodiielidaaGreatDoor

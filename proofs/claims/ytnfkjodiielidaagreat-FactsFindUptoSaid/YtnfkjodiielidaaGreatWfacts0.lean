/- The program's map keys; the smaller functions of facts. -/
import Derived.Test.YtnfkjodiielidaaGreatWname
import Derived.Test.YtnfkjodiielidaaGreatRange
namespace Go.Proofs.YtnfkjodiielidaaGreat
set_option linter.unusedVariables false
set_option linter.unusedSimpArgs false
open Go.RowKit

theorem check_tuple (w : World) (e : Bool) (a b c d f g : ByteArray) : (Instr.checkKey e 10000 49 (.agg #[.string a, .string b, .string c, .string d, .string f, .string g])).run Tryz.prog w = .ok () w := by kernel_rfl
theorem bytes_beq (s : ByteArray) : (s == s) = true := by rw [beq_toListBytes]; simp
theorem bits_string (s : ByteArray) : Instr.sameBits 9999 (.string s) (.string s) = true := by simp [Instr.sameBits, bytes_beq]
theorem bits_tuple (a b c d f g : ByteArray) : Instr.sameBits 10000 (.agg #[.string a, .string b, .string c, .string d, .string f, .string g]) (.agg #[.string a, .string b, .string c, .string d, .string f, .string g]) = true := by
  rw [show (10000 : Nat) = 9999 + 1 from rfl]
  simp only [Instr.sameBits, List.size_toArray, List.length_cons, List.length_nil, beq_self_eq_true, Bool.true_and, List.zip_cons_cons, List.zip_nil_right, List.all_cons, List.all_nil, bytes_beq]
set_option maxRecDepth 100000 in
theorem eq_tuple (x y : LTuple) (w : World) : (Op.equal 49 x.val y.val).run Tryz.prog w = .ok (decide (x = y)) w := by
  obtain ⟨a, b, c, ⟨d, e, f⟩⟩ := x
  obtain ⟨a', b', c', ⟨d', e', f'⟩⟩ := y
  unfold LTuple.val
  simp only [Op.equal, Op.maxDepth]
  have hS : Tryz.prog.underlying 49 = some (.struct (Tryz.prog.fieldsOf 49)) := by kernel_rfl
  have hp : Tryz.prog.stoodInHeld 49 = false := by kernel_rfl
  rw [show (10000 : Nat) = 9999 + 1 from rfl, run_equalIn_struct w 9999 _ _ _ hS hp]
  clear hS hp
  simp only [Program.fieldsOf, Tryz.underlying49]
  go_simp
  simp only [toList_eq_iff]
  by_cases h1 : a = a' <;> by_cases h2 : b = b' <;> by_cases h3 : c = c' <;> by_cases h4 : d = d' <;> by_cases h5 : e = e' <;> by_cases h6 : f = f' <;> simp only [h1, h2, h3, h4, h5, h6, if_true, if_false, decide_true, decide_false, Bool.and_true, Bool.and_false]
theorem keyT_tuple : KeyT Tryz.prog 49 LTuple.val where
  check w b x := check_tuple w b x.kind x.id x.rel x.user.kind x.user.id x.user.rel
  eq w x y := eq_tuple x y w
  now := ⟨_, Tryz.underlying49, fun _ _ => rfl⟩
  bits x := bits_tuple x.kind x.id x.rel x.user.kind x.user.id x.user.rel
theorem zero_int (w : World) : (zeroValue 3).run Tryz.prog w = .ok (.int .i64 0) w := by kernel_rfl

/-! ### A set of tuples in memory -/
def oneV (_ : Unit) : Value := .int .i64 1
/-- The set's block fb leads to the map's, mb. -/
def FactsAt (w : World) (fb mb : Nat) (S : List LTuple) : Prop :=
  w.cell? ⟨fb, 0, none⟩ = some (.map (some mb)) ∧ MapAt w mb LTuple.val oneV (S.map fun t => (t, ()))
theorem map_fst (S : List LTuple) : (S.map fun t => (t, ())).map (·.1) = S := by simp [Function.comp_def]
theorem FactsAt.nodup {w : World} {fb mb : Nat} {S : List LTuple} (h : FactsAt w fb mb S) : S.Nodup := by have := h.2.nodup; rwa [map_fst] at this
theorem FactsAt.lt {w : World} {fb mb : Nat} {S : List LTuple} (h : FactsAt w fb mb S) : fb < w.heap.size := World.block_lt_of_cell? w _ h.1
theorem FactsAt.ne {w : World} {fb mb : Nat} {S : List LTuple} (h : FactsAt w fb mb S) : fb ≠ mb := by
  rintro rfl
  obtain ⟨h1, es, clock, h2, _⟩ := h
  simp [World.cell?, h2] at h1
theorem FactsAt.below {w w' : World} {fb mb : Nat} {S : List LTuple} (h : FactsAt w fb mb S) (hw : Below w.heap.size w w') : FactsAt w' fb mb S :=
  ⟨(hw.cell (p := ⟨fb, 0, none⟩) h.lt).trans h.1, h.2.below hw⟩
theorem FactsAt.fr {M : Nat → Prop} {w w' : World} {fb mb : Nat} {S : List LTuple} (h : FactsAt w fb mb S) (hw : Fr M w w') (h1 : ¬ M fb) (h2 : ¬ M mb) : FactsAt w' fb mb S :=
  ⟨(hw.cell h.lt h1).trans h.1, h.2.fr hw h2⟩
theorem look_unit (t : LTuple) (S : List LTuple) : look t (S.map fun t => (t, ())) = if t ∈ S then some () else none := by
  cases h : look t (S.map fun t => (t, ())) with
  | none => rw [look_none, map_fst] at h; rw [if_neg h]
  | some u => have := look_some h; simp at this; rw [if_pos this]
theorem put_unit (t : LTuple) (S : List LTuple) (h : t ∉ S) : putM t () (S.map fun t => (t, ())) = (S ++ [t]).map fun t => (t, ()) := by
  rw [putM_none (by have := look_none.2 (show t ∉ (S.map fun t => (t, ())).map (·.1) by rwa [map_fst]); simpa [look] using this)]
  simp

theorem run_look_tuple {w : World} {mb : Nat} {S : List LTuple} (h : MapAt w mb LTuple.val oneV (S.map fun t => (t, ()))) (a b c d e f : ByteArray) :
    (Instr.lookup 46 (.map (some mb)) (.agg #[.string a, .string b, .string c, .string d, .string e, .string f]) false).run Tryz.prog w = .ok (.int .i64 (if (⟨a, b, c, ⟨d, e, f⟩⟩ : LTuple) ∈ S then 1 else 0)) w := by
  have h1 := run_lookup keyT_tuple Tryz.underlying46 (zero_int w) h ⟨a, b, c, ⟨d, e, f⟩⟩ false
  refine h1.trans ?_
  rw [look_unit]
  by_cases hm : (⟨a, b, c, ⟨d, e, f⟩⟩ : LTuple) ∈ S <;> simp [hm, oneV]

set_option maxRecDepth 100000 in
set_option maxHeartbeats 1000000 in
theorem facts_Has {w : World} {fb mb : Nat} {S : List LTuple} (h : FactsAt w fb mb S) (a b c d e f : ByteArray) :
    Calls Tryz.prog 21 #[.pointer (some ⟨fb, 0, none⟩), .agg #[.string a, .string b, .string c, .string d, .string e, .string f]] w fun r w' => r = .returned (.bool (decide ((⟨a, b, c, ⟨d, e, f⟩⟩ : LTuple) ∈ S))) ∧ Below w.heap.size w w' := by
  have hB : Below w.heap.size w (w.alloc (.cells #[.string a, .string b, .string c, .string d, .string e, .string f] 49)) := (Below.refl _ w).alloc (Nat.le_refl _) _
  have h2 := h.below hB
  have hl : ∀ q, _ := fun q => run_look_tuple (w := (w.alloc (.cells #[.string a, .string b, .string c, .string d, .string e, .string f] 49)).drewN q) h2.2 a b c d e f
  have hc := h2.1
  clear h h2
  by_cases hm : (⟨a, b, c, ⟨d, e, f⟩⟩ : LTuple) ∈ S
  · simp only [hm, if_true, decide_true] at hl ⊢
    clear hm
    go_enter Tryz.func21, Tryz.ntmps21
    go_wp2
    go_quiet (fail)
    go_wp2
    go_ret
    exact ⟨rfl, below_drewN hB _⟩
  · simp only [hm, if_false, decide_false] at hl ⊢
    clear hm
    go_enter Tryz.func21, Tryz.ntmps21
    go_wp2
    go_quiet (fail)
    go_wp2
    go_ret
    exact ⟨rfl, below_drewN hB _⟩
end Go.Proofs.YtnfkjodiielidaaGreat

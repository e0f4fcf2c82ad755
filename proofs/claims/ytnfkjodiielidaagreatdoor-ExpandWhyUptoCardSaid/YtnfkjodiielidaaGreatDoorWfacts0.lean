/- The program's map keys; the smaller functions of facts. -/
/- Put and New: a tuple more; a set of those of a list that may be. -/
import Derived.Test.YtnfkjodiielidaaGreatDoorWname
import Derived.Test.YtnfkjodiielidaaGreatDoorMaps
import Derived.StillTailTactics
namespace Go.Proofs.YtnfkjodiielidaaGreatDoor
set_option linter.unusedVariables false
set_option linter.unusedSimpArgs false
open Go.RowKit

theorem check_tuple (w : World) (e : Bool) (a b c d f g : ByteArray) : (Instr.checkKey e 10000 61 (.agg #[.string a, .string b, .string c, .string d, .string f, .string g])).run Tryz.prog w = .ok () w := by kernel_rfl
theorem bytes_beq (s : ByteArray) : (s == s) = true := by rw [beq_toListBytes]; simp
theorem bits_string (s : ByteArray) : Instr.sameBits 9999 (.string s) (.string s) = true := by simp [Instr.sameBits, bytes_beq]
theorem bits_tuple (a b c d f g : ByteArray) : Instr.sameBits 10000 (.agg #[.string a, .string b, .string c, .string d, .string f, .string g]) (.agg #[.string a, .string b, .string c, .string d, .string f, .string g]) = true := by
  rw [show (10000 : Nat) = 9999 + 1 from rfl]
  simp only [Instr.sameBits, List.size_toArray, List.length_cons, List.length_nil, beq_self_eq_true, Bool.true_and, List.zip_cons_cons, List.zip_nil_right, List.all_cons, List.all_nil, bytes_beq]
set_option maxRecDepth 100000 in
theorem eq_tuple (x y : LTuple) (w : World) : (Op.equal 61 x.val y.val).run Tryz.prog w = .ok (decide (x = y)) w := by
  obtain ⟨a, b, c, ⟨d, e, f⟩⟩ := x
  obtain ⟨a', b', c', ⟨d', e', f'⟩⟩ := y
  unfold LTuple.val
  simp only [Op.equal, Op.maxDepth]
  have hS : Tryz.prog.underlying 61 = some (.struct (Tryz.prog.fieldsOf 61)) := by kernel_rfl
  have hp : Tryz.prog.stoodInHeld 61 = false := by kernel_rfl
  rw [show (10000 : Nat) = 9999 + 1 from rfl, run_equalIn_struct w 9999 _ _ _ hS hp]
  clear hS hp
  simp only [Program.fieldsOf, Tryz.underlying61]
  go_simp
  simp only [toList_eq_iff]
  by_cases h1 : a = a' <;> by_cases h2 : b = b' <;> by_cases h3 : c = c' <;> by_cases h4 : d = d' <;> by_cases h5 : e = e' <;> by_cases h6 : f = f' <;> simp only [h1, h2, h3, h4, h5, h6, if_true, if_false, decide_true, decide_false, Bool.and_true, Bool.and_false]
theorem keyT_tuple : KeyT Tryz.prog 61 LTuple.val where
  check w b x := check_tuple w b x.kind x.id x.rel x.user.kind x.user.id x.user.rel
  eq w x y := eq_tuple x y w
  now := ⟨_, Tryz.underlying61, fun _ _ => rfl⟩
  bits x := bits_tuple x.kind x.id x.rel x.user.kind x.user.id x.user.rel
theorem zero_int (w : World) : (zeroValue 3).run Tryz.prog w = .ok (.int .i64 0) w := by kernel_rfl

/-! ### A set of tuples in memory -/
def oneV (_ : Unit) : Value := .int .i64 1
/-- The set's block fb leads to the map's, mb. -/
def FactsAt (w : World) (fb mb : Nat) (S : List LTuple) : Prop :=
  w.cell? ⟨fb, 0, none⟩ = some (.map (some mb)) ∧ MapAt w mb LTuple.val oneV (S.map fun t => (t, ()))
theorem map_fst (S : List LTuple) : (S.map fun t => (t, ())).map (·.1) = S := by simp [Function.comp_def]
theorem FactsAt.nodup {w : World} {fb mb : Nat} {S : List LTuple} (h : FactsAt w fb mb S) : S.Nodup := by have := h.2.nodup; rwa [map_fst] at this
theorem FactsAt.lt {w : World} {fb mb : Nat} {S : List LTuple} (h : FactsAt w fb mb S) : fb < w.heap.size := World.block_lt_of_cell? w _ h.1
theorem FactsAt.ne {w : World} {fb mb : Nat} {S : List LTuple} (h : FactsAt w fb mb S) : fb ≠ mb := by
  rintro rfl
  obtain ⟨h1, es, clock, h2, _⟩ := h
  simp [World.cell?, h2] at h1
theorem FactsAt.below {w w' : World} {fb mb : Nat} {S : List LTuple} (h : FactsAt w fb mb S) (hw : Below w.heap.size w w') : FactsAt w' fb mb S :=
  ⟨(hw.cell (p := ⟨fb, 0, none⟩) h.lt).trans h.1, h.2.below hw⟩
theorem FactsAt.fr {M : Nat → Prop} {w w' : World} {fb mb : Nat} {S : List LTuple} (h : FactsAt w fb mb S) (hw : Fr M w w') (h1 : ¬ M fb) (h2 : ¬ M mb) : FactsAt w' fb mb S :=
  ⟨(hw.cell h.lt h1).trans h.1, h.2.fr hw h2⟩
theorem look_unit (t : LTuple) (S : List LTuple) : look t (S.map fun t => (t, ())) = if t ∈ S then some () else none := by
  cases h : look t (S.map fun t => (t, ())) with
  | none => rw [look_none, map_fst] at h; rw [if_neg h]
  | some u => have := look_some h; simp at this; rw [if_pos this]
theorem put_unit (t : LTuple) (S : List LTuple) (h : t ∉ S) : putM t () (S.map fun t => (t, ())) = (S ++ [t]).map fun t => (t, ()) := by
  rw [putM_none (by have := look_none.2 (show t ∉ (S.map fun t => (t, ())).map (·.1) by rwa [map_fst]); simpa [look] using this)]
  simp

theorem run_look_tuple {w : World} {mb : Nat} {S : List LTuple} (h : MapAt w mb LTuple.val oneV (S.map fun t => (t, ()))) (a b c d e f : ByteArray) :
    (Instr.lookup 88 (.map (some mb)) (.agg #[.string a, .string b, .string c, .string d, .string e, .string f]) false).run Tryz.prog w = .ok (.int .i64 (if (⟨a, b, c, ⟨d, e, f⟩⟩ : LTuple) ∈ S then 1 else 0)) w := by
  have h1 := run_lookup keyT_tuple Tryz.underlying88 (zero_int w) h ⟨a, b, c, ⟨d, e, f⟩⟩ false
  refine h1.trans ?_
  rw [look_unit]
  by_cases hm : (⟨a, b, c, ⟨d, e, f⟩⟩ : LTuple) ∈ S <;> simp [hm, oneV]

set_option maxRecDepth 100000 in
set_option maxHeartbeats 1000000 in
theorem facts_Has {w : World} {fb mb : Nat} {S : List LTuple} (h : FactsAt w fb mb S) (a b c d e f : ByteArray) :
    Calls Tryz.prog 92 #[.pointer (some ⟨fb, 0, none⟩), .agg #[.string a, .string b, .string c, .string d, .string e, .string f]] w fun r w' => r = .returned (.bool (decide ((⟨a, b, c, ⟨d, e, f⟩⟩ : LTuple) ∈ S))) ∧ Below w.heap.size w w' := by
  have hB : Below w.heap.size w (w.alloc (.cells #[.string a, .string b, .string c, .string d, .string e, .string f] 61)) := (Below.refl _ w).alloc (Nat.le_refl _) _
  have h2 := h.below hB
  have hl : ∀ q, _ := fun q => run_look_tuple (w := (w.alloc (.cells #[.string a, .string b, .string c, .string d, .string e, .string f] 61)).drewN q) h2.2 a b c d e f
  have hc := h2.1
  clear h h2
  by_cases hm : (⟨a, b, c, ⟨d, e, f⟩⟩ : LTuple) ∈ S
  · simp only [hm, if_true, decide_true] at hl ⊢
    clear hm
    go_enter Tryz.func92, Tryz.ntmps92
    go_wp2
    go_quiet (fail)
    go_wp2
    go_ret
    exact ⟨rfl, below_drewN hB _⟩
  · simp only [hm, if_false, decide_false] at hl ⊢
    clear hm
    go_enter Tryz.func92, Tryz.ntmps92
    go_wp2
    go_quiet (fail)
    go_wp2
    go_ret
    exact ⟨rfl, below_drewN hB _⟩
end Go.Proofs.YtnfkjodiielidaaGreatDoor
namespace Go.Proofs.YtnfkjodiielidaaGreatDoor
set_option linter.unusedVariables false
set_option linter.unusedSimpArgs false
open Go.RowKit

def mayPut (S : List LTuple) (t : LTuple) : Bool := okTuple t && !decide (t ∈ S)
def putS (S : List LTuple) (t : LTuple) : List LTuple := if mayPut S t then S ++ [t] else S

theorem run_upd_tuple {w : World} {mb : Nat} {S : List LTuple} (h : MapAt w mb LTuple.val oneV (S.map fun t => (t, ()))) (t : LTuple) (ht : t ∉ S) :
    ∃ o, (Instr.mapUpdate 88 (.map (some mb)) t.val (.int .i64 1)).run Tryz.prog w = .ok () (setB w mb o) ∧ MapAt (setB w mb o) mb LTuple.val oneV ((S ++ [t]).map fun t => (t, ())) := by
  obtain ⟨o, h1, h2⟩ := run_mapUpdate keyT_tuple Tryz.underlying88 h t ()
  rw [put_unit t S ht] at h2
  exact ⟨o, h1, h2⟩

theorem fr_of_below_setB {w W : World} {mb : Nat} {o : Obj} (hB : Below w.heap.size w W) (hlt : mb < w.heap.size) : Fr (fun k => k = mb) w (setB W mb o) :=
  (Fr.of_below hB).trans (setB_fr W mb o)

set_option maxRecDepth 100000 in
set_option maxHeartbeats 1000000 in
theorem facts_Put {w : World} {fb mb : Nat} {S : List LTuple} (h : FactsAt w fb mb S) (t : LTuple) :
    Calls Tryz.prog 48 #[.pointer (some ⟨fb, 0, none⟩), t.val] w fun r w' => r = .returned (.bool (mayPut S t)) ∧ FactsAt w' fb mb (putS S t) ∧ Fr (fun k => k = mb) w w' := by
  obtain ⟨a, b, c, ⟨d, e, f⟩⟩ := t
  have hne := h.ne
  have hmlt := h.2.lt
  have hflt := h.lt
  have hB : Below w.heap.size w (w.alloc (.cells #[.string a, .string b, .string c, .string d, .string e, .string f] 61)) := (Below.refl _ w).alloc (Nat.le_refl _) _
  cases hok : okTuple ⟨a, b, c, ⟨d, e, f⟩⟩ with
  | false =>
    have e1 : mayPut S ⟨a, b, c, ⟨d, e, f⟩⟩ = false := by simp [mayPut, hok]
    have e2 : putS S ⟨a, b, c, ⟨d, e, f⟩⟩ = S := by simp [putS, e1]
    rw [e1, e2]
    have hck := fun W => tuple_Check ⟨a, b, c, ⟨d, e, f⟩⟩ W
    simp only [hok, Bool.false_eq_true, if_false] at hck
    have HFa := Lib.hid h
    clear h e1 e2 hok hne hmlt hflt
    unfold LTuple.val at *
    go_enter Tryz.func48, Tryz.ntmps48
    go_wp2_with (go_at_call 69; refine (hck _).mono ?_; rintro r w' ⟨rfl, hb⟩)
    go_ret
    have hB2 := below_past hB (by assumption)
    exact ⟨rfl, HFa.out.below hB2, Fr.of_below hB2⟩
  | true =>
    have hck := fun W => tuple_Check ⟨a, b, c, ⟨d, e, f⟩⟩ W
    simp only [hok, if_true] at hck
    by_cases hm : (⟨a, b, c, ⟨d, e, f⟩⟩ : LTuple) ∈ S
    · have e1 : mayPut S ⟨a, b, c, ⟨d, e, f⟩⟩ = false := by simp [mayPut, hm]
      have e2 : putS S ⟨a, b, c, ⟨d, e, f⟩⟩ = S := by simp [putS, e1]
      rw [e1, e2]
      have hhas := fun W (hW : FactsAt W fb mb S) => facts_Has hW a b c d e f
      simp only [hm, decide_true] at hhas
      have HFa := Lib.hid h
      have HH := Lib.hid hhas
      clear h e1 e2 hok hne hmlt hflt hhas hm
      unfold LTuple.val at *
      go_enter Tryz.func48, Tryz.ntmps48
      go_wp2_with fail
      refine (hck _).mono ?_
      rintro r w1 ⟨rfl, hb1⟩
      have hB1 := below_past hB hb1
      obtain ⟨hc, hf⟩ := bcell hb1
      go_wp2_with fail
      refine (HH.out _ (HFa.out.below hB1)).mono ?_
      rintro r w2 ⟨rfl, hb2⟩
      have hB2 := below_past hB1 hb2
      go_wp2
      go_ret
      exact ⟨rfl, HFa.out.below hB2, Fr.of_below hB2⟩
    · have e1 : mayPut S ⟨a, b, c, ⟨d, e, f⟩⟩ = true := by simp [mayPut, hm, hok]
      have e2 : putS S ⟨a, b, c, ⟨d, e, f⟩⟩ = S ++ [⟨a, b, c, ⟨d, e, f⟩⟩] := by simp [putS, e1]
      rw [e1, e2]
      have hhas := fun W (hW : FactsAt W fb mb S) => facts_Has hW a b c d e f
      simp only [hm, decide_false] at hhas
      have HFa := Lib.hid h
      have HH := Lib.hid hhas
      have HM := Lib.hid hm
      have HMl := Lib.hid hmlt
      have HFl := Lib.hid hflt
      have HNe := Lib.hid hne
      clear h e1 e2 hok hne hmlt hflt hhas hm
      unfold LTuple.val at *
      go_enter Tryz.func48, Tryz.ntmps48
      go_wp2_with fail
      refine (hck _).mono ?_
      rintro r w1 ⟨rfl, hb1⟩
      have hB1 := below_past hB hb1
      obtain ⟨hc, hf⟩ := bcell hb1
      have hz := below_lt (n := w.heap.size) hb1 (by simp)
      go_wp2_with fail
      refine (HH.out _ (HFa.out.below hB1)).mono ?_
      rintro r w2 ⟨rfl, hb2⟩
      have hB2 := below_past hB1 hb2
      obtain ⟨hc2, hf2⟩ := bcell hb2
      have hfa := HFa.out.below hB2
      have hp := hfa.1
      obtain ⟨o, hu, hm2⟩ := run_upd_tuple (w := w2.drew) hfa.2 ⟨a, b, c, ⟨d, e, f⟩⟩ HM.out
      have HM2 := Lib.hid hm2
      clear hfa hm2
      unfold LTuple.val at hu
      go_wp2
      go_still_tail 5, (by kernel_rfl)
      change wpList _ _ _ _ _ w2.drew
      go_wp2
      go_ret
      have hB3 : Below w.heap.size w w2.drew := hB2.drew
      exact ⟨rfl, ⟨((setB_fr _ _ _).cell (World.block_lt_of_cell? w2 _ hp) HNe.out).trans hp, HM2.out⟩, fr_of_below_setB hB3 HMl.out⟩

/-- What New makes of a list. -/
def newS (l : List LTuple) : List LTuple := l.foldl putS []
set_option maxRecDepth 100000 in
set_option maxHeartbeats 1000000 in
theorem facts_New {A : Nat → Prop} (l : List LTuple) (u : Value) (w : World) (hu : RepD A w (.slice 6 (l.map LTuple.d)) u) :
    Calls Tryz.prog 19 #[u] w fun r w' => ∃ fb mb, r = .returned (.pointer (some ⟨fb, 0, none⟩)) ∧ w.heap.size ≤ fb ∧ w.heap.size ≤ mb ∧ FactsAt w' fb mb (newS l) ∧ w'.frozen? ⟨fb, 0, none⟩ = false ∧ Below w.heap.size w w' := by
  obtain ⟨a, c, rfl, hc, hl, hk⟩ := hu.tuples
  have HK := Lib.hid hk; clear hk hu hc
  have hmm := @run_makeMap Tryz.prog
  have hF0 : FactsAt ((w.alloc (.map #[] 0)).alloc (.cells #[.map (some w.heap.size)] 90)) (w.heap.size + 1) w.heap.size [] := ⟨by simp, by
    have h1 := MapAt.made (α := LTuple) (β := Unit) w LTuple.val oneV
    exact h1.kept (Below.heap_alloc _ _ _ (by simp))⟩
  have HF0 := Lib.hid hF0; clear hF0
  go_enter Tryz.func19, Tryz.ntmps19
  go_wp2
  go_loopw [5, 11] (fun _ i wr => ∃ k : Nat, k ≤ l.length ∧ i = .int .i64 k ∧ Aside (FactsAt wr (w.heap.size + 1) w.heap.size ((l.take k).foldl putS [])) ∧ Below w.heap.size w wr ∧ Aside (wr.frozen? ⟨w.heap.size + 1, 0, none⟩ = false))
    (fun _ i _ => l.length - (intOf i).toNat)
  case atStart => exact ⟨0, by omega, rfl, ⟨HF0.out⟩, ((Below.refl _ w).alloc (Nat.le_refl _) _).alloc (by simp) _, ⟨by simp⟩⟩
  case round =>
    obtain ⟨k, hk, rfl, hF, hB, hZ⟩ := hrel
    by_cases hlt : k < l.length
    · obtain ⟨b, off, rfl, _, e0, e1, e2, e3, e4, e5⟩ := HK.out k hlt
      have hbl : b < w.heap.size := World.block_lt_of_cell? w _ e0
      rw [← hB.cell (by exact hbl)] at e0 e1 e2 e3 e4 e5
      have hstep : (l.take (k + 1)).foldl putS [] = putS ((l.take k).foldl putS []) l[k] := by rw [List.take_succ_eq_append_getElem hlt, List.foldl_append]; rfl
      have HS := Lib.hid hstep; clear hstep
      generalize (l.take k).foldl putS [] = S at *
      go_wp2_with fail
      have hF1 := hF.out.below ((Below.refl _ wr).alloc (Nat.le_refl _) (.cells l[k].cells.toArray 61))
      refine (facts_Put hF1 l[k]).mono ?_
      rintro r w1 ⟨rfl, hF2, hfr⟩
      have hHF2 := Lib.hid hF2
      have hlt2 := hF.out.lt
      clear hF1 hF2
      go_wp2
      go_roundw
      case rel =>
        have hB1 : Below w.heap.size w (wr.alloc (.cells l[k].cells.toArray 61)) := hB.alloc hB.size _
        refine ⟨k + 1, by omega, by go_num, ⟨by rw [HS.out]; exact hHF2.out⟩, hB1.trans (hfr.below hB1.size (fun j hj e => by omega)), ⟨?_⟩⟩
        rw [hfr.frozen (by simp; omega) (by omega)]
        rw [((Below.refl _ wr).alloc (Nat.le_refl _) _).frozen (p := ⟨w.heap.size + 1, 0, none⟩) hlt2]
        exact hZ.out
      case measure => simp [intOf]; omega
    · have hkk : k = l.length := by omega
      have hF1 := hF.out
      rw [hkk, List.take_of_length_le (Nat.le_refl _)] at hF1
      have HF1 := Lib.hid hF1; clear hF1 hkk hF
      go_wp2
      go_ret
      exact ⟨w.heap.size + 1, w.heap.size, rfl, by omega, Nat.le_refl _, HF1.out, hZ.out, hB⟩
end Go.Proofs.YtnfkjodiielidaaGreatDoor

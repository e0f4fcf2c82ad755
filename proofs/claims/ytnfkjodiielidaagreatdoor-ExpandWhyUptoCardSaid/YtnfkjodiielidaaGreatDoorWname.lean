/- Which names, users and tuples may be, by the program. -/
import Derived.Test.YtnfkjodiielidaaGreatDoorWtuple
import Derived.Shelf.Abstract
namespace Go.Proofs.YtnfkjodiielidaaGreatDoor
set_option linter.unusedVariables false
set_option linter.unusedSimpArgs false
open Go.RowKit

def byteAt (s : ByteArray) (i : Nat) : Int := ((s.data.toList.getD i 0).toNat : Int)
theorem byteAt_eq (s : ByteArray) (i : Nat) (h : i < s.size) : byteAt s i = ((s[i]'h).toNat : Int) := by
  unfold byteAt
  have h' : i < s.data.toList.length := by simpa using h
  rw [List.getD_eq_getElem?_getD, List.getElem?_eq_getElem h']
  rfl
theorem byteAt_range (s : ByteArray) (i : Nat) : 0 ≤ byteAt s i ∧ byteAt s i ≤ 255 := by
  unfold byteAt; have := (s.data.toList.getD i 0).toNat_lt; omega
/-- All bytes from one place on are let by p. -/
def allFrom (p : Int → Int → Bool) (s : ByteArray) (pos : Nat) : Bool := (List.range' pos (s.size - pos)).all fun i => p i (byteAt s i)
theorem allFrom_step (p : Int → Int → Bool) (s : ByteArray) (pos : Nat) (h : pos < s.size) : allFrom p s pos = (p pos (byteAt s pos) && allFrom p s (pos + 1)) := by
  unfold allFrom
  rw [show s.size - pos = (s.size - (pos + 1)) + 1 by omega, List.range'_succ, List.all_cons]
theorem allFrom_end (p : Int → Int → Bool) (s : ByteArray) (pos : Nat) (h : s.size ≤ pos) : allFrom p s pos = true := by
  unfold allFrom; rw [show s.size - pos = 0 by omega]; rfl
def okText (p : Int → Int → Bool) (most : Nat) (s : ByteArray) : Bool := allFrom p s 0 && decide (1 ≤ s.size) && decide (s.size ≤ most)
def okName (s : ByteArray) : Bool := okText nameB 12 s
def okID (s : ByteArray) : Bool := okText (fun _ => idB) 16 s
def okUser (u : LUser) : Bool := okName u.kind && okID u.id && (decide (u.rel.size = 0) || okName u.rel)
def okTuple (t : LTuple) : Bool := okName t.kind && okID t.id && okName t.rel && okUser t.user
theorem nameB_high (i c : Int) (h : 128 ≤ c) : nameB i c = false := by
  unfold nameB letterB digitB
  have h1 : decide (c ≤ 122) = false := by simp; omega
  have h2 : decide (c ≤ 57) = false := by simp; omega
  have h3 : (c == 95) = false := by simp; omega
  simp [h1, h2, h3]
theorem idB_high (c : Int) (h : 128 ≤ c) : idB c = false := by
  unfold idB letterB digitB
  have h1 : decide (c ≤ 122) = false := by simp; omega
  have h2 : decide (c ≤ 57) = false := by simp; omega
  have h3 : (c == 95) = false := by simp; omega
  have h4 : (c == 45) = false := by simp; omega
  have h5 : (c == 46) = false := by simp; omega
  simp [h1, h2, h3, h4, h5]
theorem empty_iff (s : ByteArray) : s.toList.isEmpty = decide (s.size = 0) := by
  rw [ByteArray.toList_eq]
  have : s.size = s.data.toList.length := by simp
  rw [this]
  cases s.data.toList <;> simp
theorem toList_nil_iff (s : ByteArray) : s.toList = [] ↔ s.size = 0 := by
  rw [← List.isEmpty_iff, empty_iff]; simp

set_option maxRecDepth 100000 in
set_option maxHeartbeats 1000000 in
theorem tuple_made (p : Int → Int → Bool) (hp : ∀ i c, 128 ≤ c → p i c = false) (g : Nat) (hg : ∀ (i c : Int) (W : World), Calls Tryz.prog g #[.int .i64 i, .int .i32 c] W fun e w' => e = .returned (.bool (p i c)) ∧ W = w')
    (eg : ∀ args w, (callFunc g args).run Tryz.prog w = .ok (.enter g args) w) (s : ByteArray) (most : Nat) (w : World) :
    Calls Tryz.prog 151 #[.string s, .int .i64 most, .func (.func g) #[] #[]] w fun e w' => e = .returned (.bool (okText p most s)) ∧ Below w.heap.size w w' := by
  generalize hr : okText p most s = r
  have HR := Lib.hid hr; clear hr
  have HP := Lib.hid hp; clear hp
  have HG := Lib.hid hg; clear hg
  go_enter Tryz.func151, Tryz.ntmps151
  go_wp2
  go_loopw [7] (fun _ w' => ∃ pos : Nat, w' = w.iter s pos ∧ Aside (allFrom p s 0 = allFrom p s pos) ∧ pos ≤ s.size) (fun _ w' => s.size - w'.iterPos w.heap.size)
  case atStart => exact ⟨0, rfl, ⟨rfl⟩, by omega⟩
  case round =>
    obtain ⟨pos, rfl, hA, hle⟩ := hrel
    have hB : Below w.heap.size w (w.iter s pos) := (Below.refl _ w).alloc (Nat.le_refl _) _
    by_cases hlt : pos < s.size
    · by_cases ha : (s[pos]'hlt).toNat < 128
      · have hnx : ∀ ty, (Instr.next (.pointer (some ⟨w.heap.size, 0, none⟩)) true ty).run Tryz.prog (w.iter s pos) = _ := fun ty => run_next_ascii w s pos ty hlt ha
        have hB' : Below w.heap.size w (w.iter s (pos + 1)) := (Below.refl _ w).alloc (Nat.le_refl _) _
        have hstep := allFrom_step p s pos hlt
        rw [byteAt_eq s pos hlt] at hstep
        have HS := Lib.hid hstep; clear hstep
        generalize ((s[pos]'hlt).toNat : Int) = c at *
        have hcall := HG.out (pos : Int) c (w.iter s (pos + 1))
        generalize hb : p pos c = b at hcall
        have HB := Lib.hid hb; clear hb
        cases b with
        | true =>
          go_wp2_with (go_at_fn g; refine hcall.mono ?_; rintro e w' ⟨rfl, rfl⟩)
          go_roundw
          case rel => exact ⟨pos + 1, rfl, ⟨by rw [hA.out, HS.out, HB.out]; rfl⟩, by omega⟩
          case measure => simp; omega
        | false =>
          have hfin : false = r := by rw [← HR.out]; unfold okText; rw [hA.out, HS.out, HB.out]; rfl
          have HF := Lib.hid hfin; clear hfin
          go_wp2_with (go_at_fn g; refine hcall.mono ?_; rintro e w' ⟨rfl, rfl⟩)
          go_ret
          exact ⟨ret_bool HF.out, hB'⟩
      · have hnx : ∀ ty, (Instr.next (.pointer (some ⟨w.heap.size, 0, none⟩)) true ty).run Tryz.prog (w.iter s pos) = _ := fun ty => run_next_any w s pos ty hlt
        obtain ⟨hd1, hd2⟩ := decode_high s pos hlt (by omega)
        have hstep := allFrom_step p s pos hlt
        rw [HP.out pos (byteAt s pos) (by rw [byteAt_eq s pos hlt]; omega)] at hstep
        have hfin : false = r := by rw [← HR.out]; unfold okText; rw [hA.out, hstep]; rfl
        have HF := Lib.hid hfin; clear hfin hstep
        generalize hdc : (Utf8.decode s pos) = dc at *
        clear hdc
        obtain ⟨c, k⟩ := dc
        have hB' : Below w.heap.size w (w.iter s (pos + k)) := (Below.refl _ w).alloc (Nat.le_refl _) _
        have hcall := HG.out (pos : Int) c (w.iter s (pos + k))
        rw [HP.out pos c (by simp at hd1; omega)] at hcall
        go_wp2_with (go_at_fn g; refine hcall.mono ?_; rintro e w' ⟨rfl, rfl⟩)
        go_ret
        exact ⟨ret_bool HF.out, hB'⟩
    · have hnx : ∀ ty, (Instr.next (.pointer (some ⟨w.heap.size, 0, none⟩)) true ty).run Tryz.prog (w.iter s pos) = _ := fun ty => run_next_end w s pos ty hlt
      have hr : r = (decide (1 ≤ s.size) && decide (s.size ≤ most)) := by rw [← HR.out]; unfold okText; rw [hA.out, allFrom_end p s pos (by omega)]; rfl
      have HF := Lib.hid hr; clear hr
      have he := empty_iff s
      by_cases h0 : s.size = 0
      · have h1 : s.toList.isEmpty = true := by rw [he]; simp [h0]
        have hfin : false = r := by rw [HF.out]; simp [h0]
        have HF' := Lib.hid hfin; clear hfin he h0
        go_wp2
        go_ret
        exact ⟨ret_bool HF'.out, hB⟩
      · have h1 : s.toList.isEmpty = false := by rw [he]; simp [h0]
        have hfin : decide (s.size ≤ most) = r := by rw [HF.out]; simp; omega
        have HF' := Lib.hid hfin; clear hfin he h0
        go_wp2
        go_ret
        exact ⟨ret_bool (by rw [← HF'.out]), hB⟩

theorem tuple_Name (s : ByteArray) (w : World) : Calls Tryz.prog 112 #[.string s] w fun e w' => e = .returned (.bool (okName s)) ∧ Below w.heap.size w w' := by
  have hcon := tuple_made nameB nameB_high 152 tuple_Name1 (enters_of Tryz.func152 (by kernel_rfl) rfl) s 12 w
  change Calls Tryz.prog _ _ w fun e w' => e = .returned (.bool (okName s)) ∧ _ at hcon
  generalize okName s = r at *
  go_enter Tryz.func112, Tryz.ntmps112
  go_wp2_with (go_at_call 151; refine hcon.mono ?_; rintro e w' ⟨rfl, hb⟩)
  go_ret
  exact ⟨rfl, by assumption⟩
theorem tuple_ID (s : ByteArray) (w : World) : Calls Tryz.prog 113 #[.string s] w fun e w' => e = .returned (.bool (okID s)) ∧ Below w.heap.size w w' := by
  have hcon := tuple_made (fun _ => idB) (fun _ => idB_high) 155 tuple_ID1 (enters_of Tryz.func155 (by kernel_rfl) rfl) s 16 w
  change Calls Tryz.prog _ _ w fun e w' => e = .returned (.bool (okID s)) ∧ _ at hcon
  generalize okID s = r at *
  go_enter Tryz.func113, Tryz.ntmps113
  go_wp2_with (go_at_call 151; refine hcon.mono ?_; rintro e w' ⟨rfl, hb⟩)
  go_ret
  exact ⟨rfl, by assumption⟩

set_option maxRecDepth 100000 in
set_option maxHeartbeats 1000000 in
theorem tuple_user (a b c : ByteArray) (w : World) : Calls Tryz.prog 114 #[.agg #[.string a, .string b, .string c]] w fun e w' => e = .returned (.bool (okUser ⟨a, b, c⟩)) ∧ Below w.heap.size w w' := by
  have hr : okUser ⟨a, b, c⟩ = (okName a && okID b && (decide (c.size = 0) || okName c)) := rfl
  generalize okUser ⟨a, b, c⟩ = r at *
  have he := empty_iff c
  generalize decide (c.size = 0) = E at *
  cases h1 : okName a <;> cases h2 : okID b <;> cases E <;> cases h3 : okName c
  all_goals
    simp only [h1, h2, h3, Bool.and_false, Bool.false_and, Bool.and_true, Bool.true_or, Bool.or_true, Bool.or_false] at hr
    subst hr
    have hB0 : Below w.heap.size w (w.alloc (.cells #[.string a, .string b, .string c] 25)) := (Below.refl _ w).alloc (Nat.le_refl _) _
    go_enter Tryz.func114, Tryz.ntmps114
    go_wp2_with (first | (go_at_call 112; refine (tuple_Name _ _).mono ?_; rintro e w' ⟨rfl, hb⟩; obtain ⟨hc, hf⟩ := bcell hb; have hz := below_lt (n := w.heap.size) hb (by first | assumption | simp)) | (go_at_call 113; refine (tuple_ID _ _).mono ?_; rintro e w' ⟨rfl, hb⟩; obtain ⟨hc, hf⟩ := bcell hb; have hz := below_lt (n := w.heap.size) hb (by first | assumption | simp)))
    go_ret
    refine ⟨by first | rfl | simp [*], ?_⟩
    first | exact below_past hB0 (by assumption) | exact below_past (below_past hB0 (by assumption)) (by assumption) | exact below_past (below_past (below_past hB0 (by assumption)) (by assumption)) (by assumption)

set_option maxRecDepth 100000 in
set_option maxHeartbeats 1000000 in
theorem tuple_Check (t : LTuple) (w : World) : Calls Tryz.prog 69 #[t.val] w fun e w' => e = .returned (.int .i64 (if okTuple t then 0 else 111)) ∧ Below w.heap.size w w' := by
  obtain ⟨a, b, c, ⟨d, f, g⟩⟩ := t
  have hr : okTuple ⟨a, b, c, ⟨d, f, g⟩⟩ = (okName a && okID b && okName c && okUser ⟨d, f, g⟩) := rfl
  generalize okTuple ⟨a, b, c, ⟨d, f, g⟩⟩ = r at *
  unfold LTuple.val
  cases h1 : okName a <;> cases h2 : okID b <;> cases h3 : okName c <;> cases h4 : okUser ⟨d, f, g⟩
  all_goals
    simp only [h1, h2, h3, h4, Bool.and_false, Bool.false_and, Bool.and_true] at hr
    subst hr
    have hB0 : Below w.heap.size w (w.alloc (.cells #[.string a, .string b, .string c, .string d, .string f, .string g] 61)) := (Below.refl _ w).alloc (Nat.le_refl _) _
    go_enter Tryz.func69, Tryz.ntmps69
    go_wp2_with (first | (go_at_call 112; refine (tuple_Name _ _).mono ?_; rintro e w' ⟨rfl, hb⟩; obtain ⟨hc, hf⟩ := bcell hb; have hz := below_lt (n := w.heap.size) hb (by first | assumption | simp)) | (go_at_call 113; refine (tuple_ID _ _).mono ?_; rintro e w' ⟨rfl, hb⟩; obtain ⟨hc, hf⟩ := bcell hb; have hz := below_lt (n := w.heap.size) hb (by first | assumption | simp)) | (go_at_call 114; refine (tuple_user _ _ _ _).mono ?_; rintro e w' ⟨rfl, hb⟩))
    go_ret
    refine ⟨rfl, ?_⟩
    first | exact below_past hB0 (by assumption) | exact below_past (below_past hB0 (by assumption)) (by assumption) | exact below_past (below_past (below_past hB0 (by assumption)) (by assumption)) (by assumption) | exact below_past (below_past (below_past (below_past hB0 (by assumption)) (by assumption)) (by assumption)) (by assumption)
end Go.Proofs.YtnfkjodiielidaaGreatDoor

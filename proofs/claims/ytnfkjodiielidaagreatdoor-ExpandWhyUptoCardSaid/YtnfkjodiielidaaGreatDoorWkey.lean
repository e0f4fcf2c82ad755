/- Texts, and lists of texts, compared by the program: as the order of Ord has it. -/
import Derived.Test.YtnfkjodiielidaaGreatDoorOrd
import Derived.Test.YtnfkjodiielidaaGreatDoorProg
namespace Go.Proofs.YtnfkjodiielidaaGreatDoor
set_option linter.unusedVariables false
set_option linter.unusedSimpArgs false
open Go.RowKit

def cmpS (a b : ByteArray) : Int := if ltS a b then -1 else if a = b then 0 else 1
def cmpL : List ByteArray → List ByteArray → Int
  | [], [] => 0
  | [], _ :: _ => -1
  | _ :: _, [] => 1
  | a :: x, b :: y => if a = b then cmpL x y else cmpS a b
theorem cmpS_zero (a b : ByteArray) : cmpS a b = 0 ↔ a = b := by
  unfold cmpS
  split
  · rename_i h
    constructor
    · intro h0; cases h0
    · rintro rfl; rw [lin_ltS.irrefl] at h; cases h
  · split <;> simp_all
theorem cmpL_neg (x y : List ByteArray) : cmpL x y < 0 ↔ ltL x y = true := by
  unfold ltL
  induction x generalizing y with
  | nil => cases y <;> simp [cmpL, lexB]
  | cons a x ih =>
    cases y with
    | nil => simp [cmpL, lexB]
    | cons b y =>
      simp only [cmpL, lexB]
      split
      · rename_i h; subst h; simp [lin_ltS.irrefl, ih]
      · rename_i h
        simp [h, cmpS]
        split <;> simp_all

set_option maxHeartbeats 400000 in
theorem cmp_isNaN (x : ByteArray) (w : World) : Calls Tryz.prog 173 #[.string x] w fun e w' => e = .returned (.bool false) ∧ w = w' := by
  go_enter Tryz.func173, Tryz.ntmps173
  go_wp2
  go_ret
  exact ⟨by simp, rfl⟩

theorem toList_ne {a b : ByteArray} (h : a ≠ b) : (a.toList == b.toList) = false := by
  rw [beq_eq_false_iff_ne]; exact fun e => h (bytes_toList_inj e)

set_option maxHeartbeats 400000 in
theorem cmp_Compare (x y : ByteArray) (w : World) : Calls Tryz.prog 147 #[.string x, .string y] w fun e w' => e = .returned (.int .i64 (cmpS x y)) ∧ w = w' := by
  by_cases h1 : ltS x y = true
  · have e : cmpS x y = -1 := by simp [cmpS, h1]
    rw [e]; clear e
    have h2 : Op.bytesLess x.toList y.toList = true := h1
    clear h1
    go_enter Tryz.func147, Tryz.ntmps147
    go_wp2_with (go_at_call 173; refine (cmp_isNaN _ _).mono ?_; rintro e w' ⟨rfl, rfl⟩)
    go_ret
    exact ⟨rfl, rfl⟩
  · have h1' : ltS x y = false := by simpa using h1
    by_cases hxy : x = y
    · subst hxy
      have e : cmpS x x = 0 := by simp [cmpS, h1']
      rw [e]; clear e h1
      have h2 : Op.bytesLess x.toList x.toList = false := h1'
      clear h1'
      go_enter Tryz.func147, Tryz.ntmps147
      go_wp2_with (go_at_call 173; refine (cmp_isNaN _ _).mono ?_; rintro e w' ⟨rfl, rfl⟩)
      go_ret
      exact ⟨rfl, rfl⟩
    · have e : cmpS x y = 1 := by simp [cmpS, h1', hxy]
      rw [e]; clear e h1
      have h2 : Op.bytesLess x.toList y.toList = false := h1'
      have h3 := toList_ne hxy
      clear h1' hxy
      go_enter Tryz.func147, Tryz.ntmps147
      go_wp2_with (go_at_call 173; refine (cmp_isNaN _ _).mono ?_; rintro e w' ⟨rfl, rfl⟩)
      go_ret
      exact ⟨rfl, rfl⟩

theorem cmpL_step (x y : List ByteArray) (k : Nat) (h : x.take k = y.take k) (h1 : k < x.length) (h2 : k < y.length) : cmpL (x.drop k) (y.drop k) = if x[k] = y[k] then cmpL (x.drop (k + 1)) (y.drop (k + 1)) else cmpS x[k] y[k] := by
  rw [List.drop_eq_getElem_cons h1, List.drop_eq_getElem_cons h2]
  simp [cmpL]
theorem cmpL_drop (x y : List ByteArray) (k : Nat) (h1 : k ≤ x.length) (h2 : k ≤ y.length) (h : ∀ j (a : j < k), x[j]'(by omega) = y[j]'(by omega)) : cmpL x y = cmpL (x.drop k) (y.drop k) := by
  induction k with
  | zero => simp
  | succ k ih =>
    rw [ih (by omega) (by omega) (fun j a => h j (by omega))]
    rw [List.drop_eq_getElem_cons (show k < x.length by omega), List.drop_eq_getElem_cons (show k < y.length by omega)]
    simp [cmpL, h k (by omega)]

set_option maxRecDepth 100000 in
set_option maxHeartbeats 400000 in
theorem slices_Compare {A A' : Nat → Prop} (x y : List ByteArray) (u v : Value) (w : World) (hu : RepD A w (.slice 1 (x.map fun s => [.str s])) u) (hv : RepD A' w (.slice 1 (y.map fun s => [.str s])) v) :
    Calls Tryz.prog 108 #[u, v] w fun e w' => e = .returned (.int .i64 (cmpL x y)) ∧ w = w' := by
  obtain ⟨a, c, rfl, hc, hl, hk⟩ := hu.strs
  obtain ⟨a', c', rfl, hc', hl', hk'⟩ := hv.strs
  have HK := Lib.hid hk; have HK' := Lib.hid hk'; clear hk hk' hu hv hc hc'
  generalize hm : cmpL x y = m
  have HM := Lib.hid hm; clear hm
  go_enter Tryz.func108, Tryz.ntmps108
  go_wp2
  go_loop [5, 6, 7, 8, 11] (fun _ _ _ _ i => ∃ k : Nat, k ≤ x.length ∧ k ≤ y.length ∧ i = .int .i64 k ∧ Aside (∀ j (a : j < k) (b : j < x.length) (c : j < y.length), x[j] = y[j])) (fun _ _ _ _ i => x.length - (intOf i).toNat)
  case atStart => exact ⟨0, by omega, by omega, rfl, ⟨fun j a => by omega⟩⟩
  case round =>
    obtain ⟨k, hk, hk2, rfl, hE⟩ := hrel
    by_cases hlt : k < x.length
    · by_cases hlt2 : k < y.length
      · obtain ⟨b, off, rfl, _, e0⟩ := HK.out k hlt
        obtain ⟨b', off', rfl, _, e0'⟩ := HK'.out k hlt2
        by_cases he : x[k] = y[k]
        · have hz : (cmpS x[k] y[k] != 0) = false := by rw [(cmpS_zero _ _).2 he]; rfl
          have HE := Lib.hid he; clear he
          go_wp2_with (go_at_call 147; refine (cmp_Compare _ _ _).mono ?_; rintro e w' ⟨rfl, rfl⟩)
          go_round
          case rel => exact ⟨k + 1, by omega, by omega, by go_num, ⟨fun j a b c => by
            by_cases hj : j = k
            · subst hj; exact HE.out
            · exact hE.out j (by omega) b c⟩⟩
          case measure => simp [intOf]; omega
        · have hz : (cmpS x[k] y[k] != 0) = true := by rw [bne_iff_ne]; exact fun h0 => he ((cmpS_zero _ _).1 h0)
          have hfin : cmpS x[k] y[k] = m := by
            rw [← HM.out, cmpL_drop x y k hk hk2 (fun j a => hE.out j a (by omega) (by omega))]
            rw [List.drop_eq_getElem_cons hlt, List.drop_eq_getElem_cons hlt2]
            simp [cmpL, he]
          have HF := Lib.hid hfin; clear hfin
          go_wp2_with (go_at_call 147; refine (cmp_Compare _ _ _).mono ?_; rintro e w' ⟨rfl, rfl⟩)
          go_ret
          exact ⟨ret_int HF.out, rfl⟩
      · have hfin : (1 : Int) = m := by
          rw [← HM.out, cmpL_drop x y k hk hk2 (fun j a => hE.out j a (by omega) (by omega))]
          rw [List.drop_eq_getElem_cons hlt, List.drop_of_length_le (l := y) (by omega)]
          rfl
        have HF := Lib.hid hfin; clear hfin
        obtain ⟨b, off, rfl, _, e0⟩ := HK.out k hlt
        go_wp2
        go_ret
        exact ⟨ret_int HF.out, rfl⟩
    · by_cases hlt2 : k < y.length
      · have hfin : (-1 : Int) = m := by
          rw [← HM.out, cmpL_drop x y k hk hk2 (fun j a => hE.out j a (by omega) (by omega))]
          rw [List.drop_of_length_le (l := x) (by omega), List.drop_eq_getElem_cons hlt2]
          rfl
        have HF := Lib.hid hfin; clear hfin
        have h3 : x.length < y.length := by omega
        go_wp2
        go_ret
        exact ⟨ret_int HF.out, rfl⟩
      · have hfin : (0 : Int) = m := by
          rw [← HM.out, cmpL_drop x y k hk hk2 (fun j a => hE.out j a (by omega) (by omega))]
          rw [List.drop_of_length_le (l := x) (by omega), List.drop_of_length_le (l := y) (by omega)]
          rfl
        have HF := Lib.hid hfin; clear hfin
        have h3 : ¬ x.length < y.length := by omega
        go_wp2
        go_ret
        exact ⟨ret_int HF.out, rfl⟩

set_option maxHeartbeats 400000 in
theorem key_Less {A A' : Nat → Prop} (x y : List ByteArray) (u v : Value) (w : World) (hu : RepD A w (.slice 1 (x.map fun s => [.str s])) u) (hv : RepD A' w (.slice 1 (y.map fun s => [.str s])) v) :
    Calls Tryz.prog 63 #[u, v] w fun e w' => e = .returned (.bool (ltL x y)) ∧ w = w' := by
  have e : ltL x y = decide (cmpL x y < 0) := by rw [Bool.eq_iff_iff, ← cmpL_neg]; simp
  rw [e]
  have hcon := slices_Compare x y u v w hu hv
  generalize cmpL x y = m at hcon
  clear e hu hv
  go_enter Tryz.func63, Tryz.ntmps63
  go_wp2_with (go_at_call 108; refine hcon.mono ?_; rintro e w' ⟨rfl, rfl⟩)
  go_ret
  exact ⟨rfl, rfl⟩
end Go.Proofs.YtnfkjodiielidaaGreatDoor

/- slices.IndexFunc and slices.ContainsFunc, at whatever function that says p k of row k. (Printed by gen_idx.py.) -/
import Derived.Test.YtnfkjodiielidaaGreatDoorOwn
import Derived.Test.YtnfkjodiielidaaGreatDoorProg
import Derived.Shelf.Abstract
namespace Go.Proofs.YtnfkjodiielidaaGreatDoor
set_option linter.unusedVariables false
set_option linter.unusedSimpArgs false
open Go.RowKit

/-- The first one below n of which p holds, or -1. -/
def firstP (p : Nat → Bool) (n : Nat) : Int := match (List.range n).find? p with | some k => k | none => -1
theorem firstP_some {p : Nat → Bool} {n k : Nat} (hk : k < n) (hp : p k = true) (h : ∀ j, j < k → p j = false) : firstP p n = k := by
  unfold firstP
  have : (List.range n).find? p = some k := by
    rw [List.find?_range_eq_some]
    exact ⟨hp, by simpa using hk, fun j hj => by simp [h j hj]⟩
  rw [this]
theorem firstP_none {p : Nat → Bool} {n : Nat} (h : ∀ j, j < n → p j = false) : firstP p n = -1 := by
  unfold firstP
  have : (List.range n).find? p = none := by
    rw [List.find?_eq_none]
    intro j hj
    simp [h j (by simpa using hj)]
  rw [this]
theorem firstP_nonneg (p : Nat → Bool) (n : Nat) : decide (0 ≤ firstP p n) = (List.range n).any p := by
  unfold firstP
  cases h : (List.range n).find? p with
  | none =>
    rw [List.find?_eq_none] at h
    have : (List.range n).any p = false := by rw [List.any_eq_false]; exact h
    rw [this]; rfl
  | some k =>
    have h1 := List.find?_some h
    have h2 := List.mem_of_find?_eq_some h
    have : (List.range n).any p = true := List.any_eq_true.2 ⟨k, h2, h1⟩
    rw [this]; simp
/-- What a function value says of the rows of a slice, in every world that has grown out of w. -/
def RowsSay (P : Program) (w : World) (g : Nat) (lb : Array Value) (n : Nat) (val : Nat → Value) (p : Nat → Bool) : Prop :=
  ∀ k, k < n → ∀ W, Below w.heap.size w W → Calls P g (#[val k] ++ lb) W fun e W' => e = .returned (.bool (p k)) ∧ Below W.heap.size W W'

set_option maxRecDepth 100000 in
set_option maxHeartbeats 1000000 in
theorem indexFunc_Kind (a : Option Addr) (n c : Nat) (cs : Nat → Nat → Value) (w : World) (hn : n ≤ 140737488355328) (hk : ∀ k, k < n → ∃ b off, a = some ⟨b, off, none⟩ ∧ w.cell? ⟨b, off + k * 2, none⟩ = some (cs k 0) ∧ w.cell? ⟨b, off + k * 2 + 1, none⟩ = some (cs k 1))
    (g : Nat) (lb : Array Value) (p : Nat → Bool) (hp : RowsSay Tryz.prog w g lb n (fun k => .agg #[cs k 0, cs k 1]) p) (eg : ∀ args w, (callFunc g args).run Tryz.prog w = .ok (.enter g args) w) :
    Calls Tryz.prog 87 #[.slice a n c, .func (.func g) #[] lb] w fun e w' => e = .returned (.int .i64 (firstP p n)) ∧ Below w.heap.size w w' := by
  generalize hr : firstP p n = r
  have HR := Lib.hid hr; clear hr
  have HK := Lib.hid hk; clear hk
  have HP := Lib.hid hp; clear hp
  go_enter Tryz.func87, Tryz.ntmps87
  go_wp2
  go_loopw [8] (fun i wr => ∃ k : Nat, k ≤ n ∧ i = .int .i64 k ∧ Below w.heap.size w wr ∧ Aside (∀ j, j < k → p j = false)) (fun i _ => n - (intOf i).toNat)
  case atStart => exact ⟨0, by omega, rfl, Below.refl _ _, ⟨fun j hj => by omega⟩⟩
  case round =>
    obtain ⟨k, hk, rfl, hB, hF⟩ := hrel
    by_cases hlt : k < n
    · obtain ⟨b, off, rfl, e0, e1⟩ := HK.out k hlt
      have hbl : b < w.heap.size := World.block_lt_of_cell? w _ e0
      rw [← hB.cell (by exact hbl)] at e0 e1
      have hcall := HP.out k hlt wr hB
      generalize hb : p k = B at hcall
      have HB := Lib.hid hb; clear hb
      have HC := Lib.hid hcall; clear hcall
      cases B with
      | true =>
        go_wp2_with (go_at_fn g; refine HC.out.mono ?_; rintro e w1 ⟨rfl, hb1⟩)
        go_ret
        exact ⟨ret_int (by rw [← HR.out, firstP_some hlt HB.out hF.out]), below_past hB (by assumption)⟩
      | false =>
        go_wp2_with (go_at_fn g; refine HC.out.mono ?_; rintro e w1 ⟨rfl, hb1⟩)
        go_roundw
        case rel => exact ⟨k + 1, by omega, by go_num, below_past hB (by assumption), ⟨fun j hj => by
          by_cases e : j = k
          · subst e; exact HB.out
          · exact hF.out j (by omega)⟩⟩
        case measure => simp [intOf]; omega
    · have hkn : k = n := by omega
      have HR' : Hid (-1 = r) := by show -1 = r; rw [← HR.out, firstP_none (fun j hj => hF.out j (by omega))]
      clear hkn
      go_wp2
      go_ret
      exact ⟨ret_int HR'.out, hB⟩

set_option maxHeartbeats 1000000 in
theorem containsFunc_Kind (a : Option Addr) (n c : Nat) (cs : Nat → Nat → Value) (w : World) (hn : n ≤ 140737488355328) (hk : ∀ k, k < n → ∃ b off, a = some ⟨b, off, none⟩ ∧ w.cell? ⟨b, off + k * 2, none⟩ = some (cs k 0) ∧ w.cell? ⟨b, off + k * 2 + 1, none⟩ = some (cs k 1))
    (g : Nat) (lb : Array Value) (p : Nat → Bool) (hp : RowsSay Tryz.prog w g lb n (fun k => .agg #[cs k 0, cs k 1]) p) (eg : ∀ args w, (callFunc g args).run Tryz.prog w = .ok (.enter g args) w) :
    Calls Tryz.prog 77 #[.slice a n c, .func (.func g) #[] lb] w fun e w' => e = .returned (.bool ((List.range n).any p)) ∧ Below w.heap.size w w' := by
  rw [← firstP_nonneg]
  have hcon := indexFunc_Kind a n c cs w hn hk g lb p hp eg
  generalize firstP p n = r at *
  have HC := Lib.hid hcon; clear hcon hk hp eg
  go_enter Tryz.func77, Tryz.ntmps77
  go_wp2_with (go_at_call 87; refine HC.out.mono ?_; rintro e w1 ⟨rfl, hb1⟩)
  go_ret
  exact ⟨rfl, by assumption⟩

set_option maxRecDepth 100000 in
set_option maxHeartbeats 1000000 in
theorem indexFunc_Rule (a : Option Addr) (n c : Nat) (cs : Nat → Nat → Value) (w : World) (hn : n ≤ 140737488355328) (hk : ∀ k, k < n → ∃ b off, a = some ⟨b, off, none⟩ ∧ w.cell? ⟨b, off + k * 5, none⟩ = some (cs k 0) ∧ w.cell? ⟨b, off + k * 5 + 1, none⟩ = some (cs k 1) ∧ w.cell? ⟨b, off + k * 5 + 2, none⟩ = some (cs k 2) ∧ w.cell? ⟨b, off + k * 5 + 3, none⟩ = some (cs k 3) ∧ w.cell? ⟨b, off + k * 5 + 4, none⟩ = some (cs k 4))
    (g : Nat) (lb : Array Value) (p : Nat → Bool) (hp : RowsSay Tryz.prog w g lb n (fun k => .agg #[cs k 0, cs k 1, cs k 2, cs k 3, cs k 4]) p) (eg : ∀ args w, (callFunc g args).run Tryz.prog w = .ok (.enter g args) w) :
    Calls Tryz.prog 128 #[.slice a n c, .func (.func g) #[] lb] w fun e w' => e = .returned (.int .i64 (firstP p n)) ∧ Below w.heap.size w w' := by
  generalize hr : firstP p n = r
  have HR := Lib.hid hr; clear hr
  have HK := Lib.hid hk; clear hk
  have HP := Lib.hid hp; clear hp
  go_enter Tryz.func128, Tryz.ntmps128
  go_wp2
  go_loopw [8] (fun i wr => ∃ k : Nat, k ≤ n ∧ i = .int .i64 k ∧ Below w.heap.size w wr ∧ Aside (∀ j, j < k → p j = false)) (fun i _ => n - (intOf i).toNat)
  case atStart => exact ⟨0, by omega, rfl, Below.refl _ _, ⟨fun j hj => by omega⟩⟩
  case round =>
    obtain ⟨k, hk, rfl, hB, hF⟩ := hrel
    by_cases hlt : k < n
    · obtain ⟨b, off, rfl, e0, e1, e2, e3, e4⟩ := HK.out k hlt
      have hbl : b < w.heap.size := World.block_lt_of_cell? w _ e0
      rw [← hB.cell (by exact hbl)] at e0 e1 e2 e3 e4
      have hcall := HP.out k hlt wr hB
      generalize hb : p k = B at hcall
      have HB := Lib.hid hb; clear hb
      have HC := Lib.hid hcall; clear hcall
      cases B with
      | true =>
        go_wp2_with (go_at_fn g; refine HC.out.mono ?_; rintro e w1 ⟨rfl, hb1⟩)
        go_ret
        exact ⟨ret_int (by rw [← HR.out, firstP_some hlt HB.out hF.out]), below_past hB (by assumption)⟩
      | false =>
        go_wp2_with (go_at_fn g; refine HC.out.mono ?_; rintro e w1 ⟨rfl, hb1⟩)
        go_roundw
        case rel => exact ⟨k + 1, by omega, by go_num, below_past hB (by assumption), ⟨fun j hj => by
          by_cases e : j = k
          · subst e; exact HB.out
          · exact hF.out j (by omega)⟩⟩
        case measure => simp [intOf]; omega
    · have hkn : k = n := by omega
      have HR' : Hid (-1 = r) := by show -1 = r; rw [← HR.out, firstP_none (fun j hj => hF.out j (by omega))]
      clear hkn
      go_wp2
      go_ret
      exact ⟨ret_int HR'.out, hB⟩

set_option maxHeartbeats 1000000 in
theorem containsFunc_Rule (a : Option Addr) (n c : Nat) (cs : Nat → Nat → Value) (w : World) (hn : n ≤ 140737488355328) (hk : ∀ k, k < n → ∃ b off, a = some ⟨b, off, none⟩ ∧ w.cell? ⟨b, off + k * 5, none⟩ = some (cs k 0) ∧ w.cell? ⟨b, off + k * 5 + 1, none⟩ = some (cs k 1) ∧ w.cell? ⟨b, off + k * 5 + 2, none⟩ = some (cs k 2) ∧ w.cell? ⟨b, off + k * 5 + 3, none⟩ = some (cs k 3) ∧ w.cell? ⟨b, off + k * 5 + 4, none⟩ = some (cs k 4))
    (g : Nat) (lb : Array Value) (p : Nat → Bool) (hp : RowsSay Tryz.prog w g lb n (fun k => .agg #[cs k 0, cs k 1, cs k 2, cs k 3, cs k 4]) p) (eg : ∀ args w, (callFunc g args).run Tryz.prog w = .ok (.enter g args) w) :
    Calls Tryz.prog 120 #[.slice a n c, .func (.func g) #[] lb] w fun e w' => e = .returned (.bool ((List.range n).any p)) ∧ Below w.heap.size w w' := by
  rw [← firstP_nonneg]
  have hcon := indexFunc_Rule a n c cs w hn hk g lb p hp eg
  generalize firstP p n = r at *
  have HC := Lib.hid hcon; clear hcon hk hp eg
  go_enter Tryz.func120, Tryz.ntmps120
  go_wp2_with (go_at_call 128; refine HC.out.mono ?_; rintro e w1 ⟨rfl, hb1⟩)
  go_ret
  exact ⟨rfl, by assumption⟩

set_option maxRecDepth 100000 in
set_option maxHeartbeats 1000000 in
theorem indexFunc_Expr (a : Option Addr) (n c : Nat) (cs : Nat → Nat → Value) (w : World) (hn : n ≤ 140737488355328) (hk : ∀ k, k < n → ∃ b off, a = some ⟨b, off, none⟩ ∧ w.cell? ⟨b, off + k * 4, none⟩ = some (cs k 0) ∧ w.cell? ⟨b, off + k * 4 + 1, none⟩ = some (cs k 1) ∧ w.cell? ⟨b, off + k * 4 + 2, none⟩ = some (cs k 2) ∧ w.cell? ⟨b, off + k * 4 + 3, none⟩ = some (cs k 3))
    (g : Nat) (lb : Array Value) (p : Nat → Bool) (hp : RowsSay Tryz.prog w g lb n (fun k => .agg #[cs k 0, cs k 1, cs k 2, cs k 3]) p) (eg : ∀ args w, (callFunc g args).run Tryz.prog w = .ok (.enter g args) w) :
    Calls Tryz.prog 164 #[.slice a n c, .func (.func g) #[] lb] w fun e w' => e = .returned (.int .i64 (firstP p n)) ∧ Below w.heap.size w w' := by
  generalize hr : firstP p n = r
  have HR := Lib.hid hr; clear hr
  have HK := Lib.hid hk; clear hk
  have HP := Lib.hid hp; clear hp
  go_enter Tryz.func164, Tryz.ntmps164
  go_wp2
  go_loopw [8] (fun i wr => ∃ k : Nat, k ≤ n ∧ i = .int .i64 k ∧ Below w.heap.size w wr ∧ Aside (∀ j, j < k → p j = false)) (fun i _ => n - (intOf i).toNat)
  case atStart => exact ⟨0, by omega, rfl, Below.refl _ _, ⟨fun j hj => by omega⟩⟩
  case round =>
    obtain ⟨k, hk, rfl, hB, hF⟩ := hrel
    by_cases hlt : k < n
    · obtain ⟨b, off, rfl, e0, e1, e2, e3⟩ := HK.out k hlt
      have hbl : b < w.heap.size := World.block_lt_of_cell? w _ e0
      rw [← hB.cell (by exact hbl)] at e0 e1 e2 e3
      have hcall := HP.out k hlt wr hB
      generalize hb : p k = B at hcall
      have HB := Lib.hid hb; clear hb
      have HC := Lib.hid hcall; clear hcall
      cases B with
      | true =>
        go_wp2_with (go_at_fn g; refine HC.out.mono ?_; rintro e w1 ⟨rfl, hb1⟩)
        go_ret
        exact ⟨ret_int (by rw [← HR.out, firstP_some hlt HB.out hF.out]), below_past hB (by assumption)⟩
      | false =>
        go_wp2_with (go_at_fn g; refine HC.out.mono ?_; rintro e w1 ⟨rfl, hb1⟩)
        go_roundw
        case rel => exact ⟨k + 1, by omega, by go_num, below_past hB (by assumption), ⟨fun j hj => by
          by_cases e : j = k
          · subst e; exact HB.out
          · exact hF.out j (by omega)⟩⟩
        case measure => simp [intOf]; omega
    · have hkn : k = n := by omega
      have HR' : Hid (-1 = r) := by show -1 = r; rw [← HR.out, firstP_none (fun j hj => hF.out j (by omega))]
      clear hkn
      go_wp2
      go_ret
      exact ⟨ret_int HR'.out, hB⟩

set_option maxHeartbeats 1000000 in
theorem containsFunc_Expr (a : Option Addr) (n c : Nat) (cs : Nat → Nat → Value) (w : World) (hn : n ≤ 140737488355328) (hk : ∀ k, k < n → ∃ b off, a = some ⟨b, off, none⟩ ∧ w.cell? ⟨b, off + k * 4, none⟩ = some (cs k 0) ∧ w.cell? ⟨b, off + k * 4 + 1, none⟩ = some (cs k 1) ∧ w.cell? ⟨b, off + k * 4 + 2, none⟩ = some (cs k 2) ∧ w.cell? ⟨b, off + k * 4 + 3, none⟩ = some (cs k 3))
    (g : Nat) (lb : Array Value) (p : Nat → Bool) (hp : RowsSay Tryz.prog w g lb n (fun k => .agg #[cs k 0, cs k 1, cs k 2, cs k 3]) p) (eg : ∀ args w, (callFunc g args).run Tryz.prog w = .ok (.enter g args) w) :
    Calls Tryz.prog 122 #[.slice a n c, .func (.func g) #[] lb] w fun e w' => e = .returned (.bool ((List.range n).any p)) ∧ Below w.heap.size w w' := by
  rw [← firstP_nonneg]
  have hcon := indexFunc_Expr a n c cs w hn hk g lb p hp eg
  generalize firstP p n = r at *
  have HC := Lib.hid hcon; clear hcon hk hp eg
  go_enter Tryz.func122, Tryz.ntmps122
  go_wp2_with (go_at_call 164; refine HC.out.mono ?_; rintro e w1 ⟨rfl, hb1⟩)
  go_ret
  exact ⟨rfl, by assumption⟩

set_option maxRecDepth 100000 in
set_option maxHeartbeats 1000000 in
theorem indexFunc_User (a : Option Addr) (n c : Nat) (cs : Nat → Nat → Value) (w : World) (hn : n ≤ 140737488355328) (hk : ∀ k, k < n → ∃ b off, a = some ⟨b, off, none⟩ ∧ w.cell? ⟨b, off + k * 3, none⟩ = some (cs k 0) ∧ w.cell? ⟨b, off + k * 3 + 1, none⟩ = some (cs k 1) ∧ w.cell? ⟨b, off + k * 3 + 2, none⟩ = some (cs k 2))
    (g : Nat) (lb : Array Value) (p : Nat → Bool) (hp : RowsSay Tryz.prog w g lb n (fun k => .agg #[cs k 0, cs k 1, cs k 2]) p) (eg : ∀ args w, (callFunc g args).run Tryz.prog w = .ok (.enter g args) w) :
    Calls Tryz.prog 167 #[.slice a n c, .func (.func g) #[] lb] w fun e w' => e = .returned (.int .i64 (firstP p n)) ∧ Below w.heap.size w w' := by
  generalize hr : firstP p n = r
  have HR := Lib.hid hr; clear hr
  have HK := Lib.hid hk; clear hk
  have HP := Lib.hid hp; clear hp
  go_enter Tryz.func167, Tryz.ntmps167
  go_wp2
  go_loopw [8] (fun i wr => ∃ k : Nat, k ≤ n ∧ i = .int .i64 k ∧ Below w.heap.size w wr ∧ Aside (∀ j, j < k → p j = false)) (fun i _ => n - (intOf i).toNat)
  case atStart => exact ⟨0, by omega, rfl, Below.refl _ _, ⟨fun j hj => by omega⟩⟩
  case round =>
    obtain ⟨k, hk, rfl, hB, hF⟩ := hrel
    by_cases hlt : k < n
    · obtain ⟨b, off, rfl, e0, e1, e2⟩ := HK.out k hlt
      have hbl : b < w.heap.size := World.block_lt_of_cell? w _ e0
      rw [← hB.cell (by exact hbl)] at e0 e1 e2
      have hcall := HP.out k hlt wr hB
      generalize hb : p k = B at hcall
      have HB := Lib.hid hb; clear hb
      have HC := Lib.hid hcall; clear hcall
      cases B with
      | true =>
        go_wp2_with (go_at_fn g; refine HC.out.mono ?_; rintro e w1 ⟨rfl, hb1⟩)
        go_ret
        exact ⟨ret_int (by rw [← HR.out, firstP_some hlt HB.out hF.out]), below_past hB (by assumption)⟩
      | false =>
        go_wp2_with (go_at_fn g; refine HC.out.mono ?_; rintro e w1 ⟨rfl, hb1⟩)
        go_roundw
        case rel => exact ⟨k + 1, by omega, by go_num, below_past hB (by assumption), ⟨fun j hj => by
          by_cases e : j = k
          · subst e; exact HB.out
          · exact hF.out j (by omega)⟩⟩
        case measure => simp [intOf]; omega
    · have hkn : k = n := by omega
      have HR' : Hid (-1 = r) := by show -1 = r; rw [← HR.out, firstP_none (fun j hj => hF.out j (by omega))]
      clear hkn
      go_wp2
      go_ret
      exact ⟨ret_int HR'.out, hB⟩

set_option maxRecDepth 100000 in
set_option maxHeartbeats 1000000 in
theorem indexFunc_Verdict (a : Option Addr) (n c : Nat) (cs : Nat → Nat → Value) (w : World) (hn : n ≤ 140737488355328) (hk : ∀ k, k < n → ∃ b off, a = some ⟨b, off, none⟩ ∧ w.cell? ⟨b, off + k * 3, none⟩ = some (cs k 0) ∧ w.cell? ⟨b, off + k * 3 + 1, none⟩ = some (cs k 1) ∧ w.cell? ⟨b, off + k * 3 + 2, none⟩ = some (cs k 2))
    (g : Nat) (lb : Array Value) (p : Nat → Bool) (hp : RowsSay Tryz.prog w g lb n (fun k => .agg #[cs k 0, cs k 1, cs k 2]) p) (eg : ∀ args w, (callFunc g args).run Tryz.prog w = .ok (.enter g args) w) :
    Calls Tryz.prog 175 #[.slice a n c, .func (.func g) #[] lb] w fun e w' => e = .returned (.int .i64 (firstP p n)) ∧ Below w.heap.size w w' := by
  generalize hr : firstP p n = r
  have HR := Lib.hid hr; clear hr
  have HK := Lib.hid hk; clear hk
  have HP := Lib.hid hp; clear hp
  go_enter Tryz.func175, Tryz.ntmps175
  go_wp2
  go_loopw [8] (fun i wr => ∃ k : Nat, k ≤ n ∧ i = .int .i64 k ∧ Below w.heap.size w wr ∧ Aside (∀ j, j < k → p j = false)) (fun i _ => n - (intOf i).toNat)
  case atStart => exact ⟨0, by omega, rfl, Below.refl _ _, ⟨fun j hj => by omega⟩⟩
  case round =>
    obtain ⟨k, hk, rfl, hB, hF⟩ := hrel
    by_cases hlt : k < n
    · obtain ⟨b, off, rfl, e0, e1, e2⟩ := HK.out k hlt
      have hbl : b < w.heap.size := World.block_lt_of_cell? w _ e0
      rw [← hB.cell (by exact hbl)] at e0 e1 e2
      have hcall := HP.out k hlt wr hB
      generalize hb : p k = B at hcall
      have HB := Lib.hid hb; clear hb
      have HC := Lib.hid hcall; clear hcall
      cases B with
      | true =>
        go_wp2_with (go_at_fn g; refine HC.out.mono ?_; rintro e w1 ⟨rfl, hb1⟩)
        go_ret
        exact ⟨ret_int (by rw [← HR.out, firstP_some hlt HB.out hF.out]), below_past hB (by assumption)⟩
      | false =>
        go_wp2_with (go_at_fn g; refine HC.out.mono ?_; rintro e w1 ⟨rfl, hb1⟩)
        go_roundw
        case rel => exact ⟨k + 1, by omega, by go_num, below_past hB (by assumption), ⟨fun j hj => by
          by_cases e : j = k
          · subst e; exact HB.out
          · exact hF.out j (by omega)⟩⟩
        case measure => simp [intOf]; omega
    · have hkn : k = n := by omega
      have HR' : Hid (-1 = r) := by show -1 = r; rw [← HR.out, firstP_none (fun j hj => hF.out j (by omega))]
      clear hkn
      go_wp2
      go_ret
      exact ⟨ret_int HR'.out, hB⟩

set_option maxHeartbeats 1000000 in
theorem containsFunc_Verdict (a : Option Addr) (n c : Nat) (cs : Nat → Nat → Value) (w : World) (hn : n ≤ 140737488355328) (hk : ∀ k, k < n → ∃ b off, a = some ⟨b, off, none⟩ ∧ w.cell? ⟨b, off + k * 3, none⟩ = some (cs k 0) ∧ w.cell? ⟨b, off + k * 3 + 1, none⟩ = some (cs k 1) ∧ w.cell? ⟨b, off + k * 3 + 2, none⟩ = some (cs k 2))
    (g : Nat) (lb : Array Value) (p : Nat → Bool) (hp : RowsSay Tryz.prog w g lb n (fun k => .agg #[cs k 0, cs k 1, cs k 2]) p) (eg : ∀ args w, (callFunc g args).run Tryz.prog w = .ok (.enter g args) w) :
    Calls Tryz.prog 160 #[.slice a n c, .func (.func g) #[] lb] w fun e w' => e = .returned (.bool ((List.range n).any p)) ∧ Below w.heap.size w w' := by
  rw [← firstP_nonneg]
  have hcon := indexFunc_Verdict a n c cs w hn hk g lb p hp eg
  generalize firstP p n = r at *
  have HC := Lib.hid hcon; clear hcon hk hp eg
  go_enter Tryz.func160, Tryz.ntmps160
  go_wp2_with (go_at_call 175; refine HC.out.mono ?_; rintro e w1 ⟨rfl, hb1⟩)
  go_ret
  exact ⟨rfl, by assumption⟩
end Go.Proofs.YtnfkjodiielidaaGreatDoor

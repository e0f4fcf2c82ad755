/- The document's layer 13: a list without a tuple. -/
import Derived.Test.YtnfkjodiielidaaWrefput
import Derived.Test.YtnfkjodiielidaaWdrop
namespace Go.Proofs.Ytnfkjodiielidaa
set_option linter.unusedVariables false
set_option linter.unusedSimpArgs false
open Go.RowKit

def dropL (L : List LTuple) (t : LTuple) : List LTuple := L.filter fun z => !decide (z = t)
theorem dropL_snoc (L : List LTuple) (z t : LTuple) : dropL (L ++ [z]) t = if z = t then dropL L t else dropL L t ++ [z] := by
  unfold dropL
  rw [List.filter_append]
  by_cases h : z = t <;> simp [h]
theorem dropL_length (L : List LTuple) (t : LTuple) : (dropL L t).length ≤ L.length := List.length_filter_le _ _
set_option maxRecDepth 100000 in
set_option maxHeartbeats 4000000 in
theorem ref_Drop {A : Nat → Prop} {w : World} {L : List LTuple} {u : Value} (hu : RepD A w (.slice 6 (L.map LTuple.d)) u) (hl : L.length ≤ 100000) (t : LTuple) :
    Calls Try.prog 16 #[u, t.val] w fun e w' => ∃ v, e = .returned v ∧ OwnL w' w.heap.size 32 6 LTuple.cells v (dropL L t) ∧ Below w.heap.size w w' := by
  have mixed : Try.prog.follows Departure.mixedOrders = true := by kernel_rfl
  obtain ⟨a, c, rfl, _, _, hk⟩ := hu.tuples
  have HK := Lib.hid hk; clear hk hu
  unfold LTuple.val
  have hS0 : PutSt w ((w.alloc (.cells #[.string t.kind, .string t.id, .string t.rel, .string t.user.kind, .string t.user.id, .string t.user.rel] 32)).alloc (.cells #[] 32)) t [] (.slice (some ⟨w.heap.size + 1, 0, none⟩) 0 0) :=
    ⟨(Below.refl _ _).alloc (by simp) _, own_made (by simp) 32 6 LTuple.cells⟩
  have HS0 := Lib.hid hS0; clear hS0
  go_enter Try.func16, Try.ntmps16
  go_wp2
  go_loopw [5, 6] (fun v n wr => ∃ q : Nat, q ≤ L.length ∧ n = .int .i64 q ∧ Aside (PutSt w wr t (dropL (L.take q) t) v)) (fun _ n _ => L.length - (intOf n).toNat)
  case atStart => exact ⟨0, by omega, rfl, ⟨HS0.out⟩⟩
  case round =>
    obtain ⟨q, hq, rfl, hS⟩ := hrel
    by_cases hlt : q < L.length
    · obtain ⟨b, off, rfl, _, e0, e1, e2, e3, e4, e5⟩ := HK.out q hlt
      have hbl : b < w.heap.size := World.block_lt_of_cell? w _ e0
      have hB := hS.out.old
      rw [← hB.cell (by exact hbl)] at e0 e1 e2 e3 e4 e5
      have hstep := dropL_snoc (L.take q) L[q] t
      rw [← List.take_succ_eq_append_getElem hlt] at hstep
      have hln := dropL_length (L.take q) t
      rw [List.length_take] at hln
      have hln2 : (dropL (L.take q) t).length ≤ 100000 := by omega
      clear hln hB
      generalize dropL (L.take q) t = out at *
      generalize L[q] = z at *
      obtain ⟨c0, c1, c2, c3, c4, c5⟩ := hS.out.cells
      have HS := Lib.hid hS.out
      clear hS
      have heq := tuple_neqB z t
      unfold LTuple.val at heq
      by_cases hzt : z = t
      · rw [show (!decide (z = t)) = false by simp [hzt]] at heq
        rw [if_pos hzt] at hstep
        have HST := Lib.hid hstep
        clear hstep hzt
        go_wp2_with fail
        go_region_o
        go_wp2
        first
          | exact ⟨⟨q + 1, by omega, by go_num, ⟨by rw [HST.out]; exact HS.out.next (Below.refl _ wr).drew⟩⟩, by simp [intOf] <;> omega⟩
          | (go_roundw
             case rel => exact ⟨q + 1, by omega, by go_num, ⟨by rw [HST.out]; exact HS.out.next (Below.refl _ wr).drew⟩⟩
             case measure => simp [intOf]; omega)
      · rw [show (!decide (z = t)) = true by simp [hzt]] at heq
        rw [if_neg hzt] at hstep
        have HST := Lib.hid hstep
        clear hstep hzt
        go_wp2_with fail
        go_region_o
        go_wp2_with (at_builtin; refine wpList_appT (HS.out.next (Below.refl _ wr).drew) rfl _ _ rfl z rfl rfl rfl (by omega) ?_; intro v1 w4 hS4; have HS4 := Lib.hid hS4; clear hS4)
        first
          | exact ⟨⟨q + 1, by omega, by go_num, ⟨by rw [HST.out]; exact HS4.out⟩⟩, by simp [intOf] <;> omega⟩
          | (go_roundw
             case rel => exact ⟨q + 1, by omega, by go_num, ⟨by rw [HST.out]; exact HS4.out⟩⟩
             case measure => simp [intOf]; omega)
    · have hS2 := hS.out
      rw [List.take_of_length_le (by omega)] at hS2
      have HS2 := Lib.hid hS2; clear hS2 hS
      go_wp2
      go_ret
      exact ⟨_, rfl, HS2.out.own.rebase (by omega), HS2.out.old⟩
/-- Dropping from the rising list. -/
theorem dropL_canon {S : List LTuple} (hn : S.Nodup) (t : LTuple) : dropL (canon tLess S) t = canon tLess (dropS S t) := by
  refine eq_canon lin_tLess ((rising_canon lin_tLess S).filter _) fun z => ?_
  unfold dropS
  rw [hn.mem_erase_iff]
  unfold dropL
  rw [List.mem_filter, mem_canon]
  simp
  exact and_comm
end Go.Proofs.Ytnfkjodiielidaa

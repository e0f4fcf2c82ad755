/- The document's layer 13: whether two lists of tuples are the same. -/
import Derived.Test.YtnfkjodiielidaaGreatWref13
namespace Go.Proofs.YtnfkjodiielidaaGreat
set_option linter.unusedVariables false
set_option linter.unusedSimpArgs false
open Go.RowKit

set_option maxRecDepth 100000 in
set_option maxHeartbeats 2000000 in
theorem ref_Same {A B : Nat → Prop} {w : World} {xs ys : List LTuple} {u v : Value} (hu : RepD A w (.slice 6 (xs.map LTuple.d)) u) (hv : RepD B w (.slice 6 (ys.map LTuple.d)) v) :
    Calls Tryz.prog 8 #[u, v] w fun e w' => e = .returned (.bool (decide (xs = ys))) ∧ Below w.heap.size w w' := by
  have mixed : Tryz.prog.follows Departure.mixedOrders = true := by kernel_rfl
  obtain ⟨a, c, rfl, _, hl, hk⟩ := hu.tuples
  obtain ⟨a', c', rfl, _, hl', hk'⟩ := hv.tuples
  have HK := Lib.hid hk; have HK' := Lib.hid hk'; clear hk hk' hu hv
  by_cases hn : xs.length = ys.length
  · generalize hr : decide (xs = ys) = r
    have HR := Lib.hid hr; clear hr
    rw [← hn]
    go_enter Tryz.func8, Tryz.ntmps8
    go_wp2
    go_loopw [5] (fun i wr => ∃ k : Nat, k ≤ xs.length ∧ i = .int .i64 k ∧ Below w.heap.size w wr ∧ Aside (xs.take k = ys.take k)) (fun i _ => xs.length - (intOf i).toNat)
    case atStart => exact ⟨0, by omega, rfl, Below.refl _ _, ⟨rfl⟩⟩
    case round =>
      obtain ⟨k, hk, rfl, hB, hF⟩ := hrel
      by_cases hlt : k < xs.length
      · obtain ⟨b, off, rfl, _, e0, e1, e2, e3, e4, e5⟩ := HK.out k hlt
        obtain ⟨b', off', rfl, _, d0, d1, d2, d3, d4, d5⟩ := HK'.out k (by omega)
        have hbl : b < w.heap.size := World.block_lt_of_cell? w _ e0
        have hbl' : b' < w.heap.size := World.block_lt_of_cell? w _ d0
        rw [← hB.cell (by exact hbl)] at e0 e1 e2 e3 e4 e5
        rw [← hB.cell (by exact hbl')] at d0 d1 d2 d3 d4 d5
        have hx : xs.take (k + 1) = xs.take k ++ [xs[k]] := List.take_succ_eq_append_getElem hlt
        have hy : ys.take (k + 1) = ys.take k ++ [ys[k]'(by omega)] := List.take_succ_eq_append_getElem (by omega)
        have HX := Lib.hid hx; have HY := Lib.hid hy; clear hx hy
        have hnx : xs[k] ≠ ys[k]'(by omega) → xs ≠ ys := fun h e => h (by subst e; rfl)
        have HN := Lib.hid hnx; clear hnx
        generalize xs[k] = x at *
        generalize ys[k]'(by omega) = y at *
        have heq := tuple_neqB x y
        unfold LTuple.val at heq
        by_cases hxy : x = y
        · rw [show (!decide (x = y)) = false by simp [hxy]] at heq
          have HXY := Lib.hid hxy; clear hxy HN
          go_wp2_with fail
          go_region_o
          go_wp2
          go_roundw
          case rel => exact ⟨k + 1, by omega, by go_num, hB.drew, ⟨by rw [HX.out, HY.out, hF.out, HXY.out]⟩⟩
          case measure => simp [intOf]; omega
        · rw [show (!decide (x = y)) = true by simp [hxy]] at heq
          have hf : false = r := by rw [← HR.out]; simp [HN.out hxy]
          have HF := Lib.hid hf; clear hf hxy HN
          go_wp2_with fail
          go_region_o
          go_wp2
          go_ret
          exact ⟨ret_bool HF.out, hB.drew⟩
      · have hkn : k = xs.length := by omega
        have ht : true = r := by
          rw [← HR.out]
          have := hF.out
          rw [hkn, List.take_of_length_le (Nat.le_refl _), hn, List.take_of_length_le (Nat.le_refl _)] at this
          simp [this]
        have HT := Lib.hid ht; clear ht hkn
        go_wp2
        go_ret
        exact ⟨ret_bool HT.out, hB⟩
  · have e : decide (xs = ys) = false := by simp; intro h; exact hn (by rw [h])
    rw [e]
    clear e
    have hni : ((xs.length : Int) = ys.length) = False := by simp; omega
    go_enter Tryz.func8, Tryz.ntmps8
    go_wp2
    go_ret
    exact ⟨rfl, Below.refl _ _⟩
end Go.Proofs.YtnfkjodiielidaaGreat

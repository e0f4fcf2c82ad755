/- The document's layer 13: a set of those of a list that may be. -/
import Derived.Test.YtnfkjodiielidaaGreatWrefput
namespace Go.Proofs.YtnfkjodiielidaaGreat
set_option linter.unusedVariables false
set_option linter.unusedSimpArgs false
open Go.RowKit

theorem mayPut_canon (S : List LTuple) (t : LTuple) : mayPut (canon tLess S) t = mayPut S t := by unfold mayPut; simp only [mem_canon]
theorem putL_canon (S : List LTuple) (t : LTuple) : putL (canon tLess S) t = canon tLess (putS S t) := by
  unfold putL putS
  rw [mayPut_canon]
  split
  · rw [canon_snoc lin_tLess]
  · rfl
theorem foldl_putL (l : List LTuple) : ∀ S, l.foldl putL (canon tLess S) = canon tLess (l.foldl putS S) := by
  induction l with
  | nil => intro S; rfl
  | cons t l ih => intro S; rw [List.foldl_cons, List.foldl_cons, putL_canon, ih]
theorem putL_length (xs : List LTuple) (t : LTuple) : (putL xs t).length ≤ xs.length + 1 := by
  unfold putL; split
  · exact ins_length
  · omega
theorem foldl_putL_length (l : List LTuple) : ∀ S, (l.foldl putL S).length ≤ S.length + l.length := by
  induction l with
  | nil => intro S; simp
  | cons t l ih => intro S; have h1 := ih (putL S t); have h2 := putL_length S t; simp only [List.foldl_cons, List.length_cons]; omega

set_option maxRecDepth 100000 in
set_option maxHeartbeats 4000000 in
theorem ref_New {A : Nat → Prop} {w : World} {l : List LTuple} {u : Value} (hu : RepD A w (.slice 6 (l.map LTuple.d)) u) (hs : ∀ t, t ∈ l → shortT t = true) (hl : l.length ≤ 1000) :
    Calls Tryz.prog 7 #[u] w fun e w' => ∃ v, e = .returned v ∧ OwnL w' w.heap.size 49 6 LTuple.cells v (canon tLess (newS l)) ∧ Below w.heap.size w w' := by
  rw [show canon tLess (newS l) = l.foldl putL [] from (foldl_putL l []).symm]
  obtain ⟨a, c, rfl, _, _, hk⟩ := hu.tuples
  have HK := Lib.hid hk; have HS := Lib.hid hs; clear hk hu hs
  have hO0 := own_made (w := w) (N := w.heap.size) rfl 49 6 LTuple.cells
  have HO0 := Lib.hid hO0; clear hO0
  go_enter Tryz.func7, Tryz.ntmps7
  go_wp2
  go_loopw [3, 4] (fun v i wr => ∃ k : Nat, k ≤ l.length ∧ i = .int .i64 k ∧ Aside (OwnL wr w.heap.size 49 6 LTuple.cells v ((l.take k).foldl putL [])) ∧ Below w.heap.size w wr) (fun _ i _ => l.length - (intOf i).toNat)
  case atStart => exact ⟨0, by omega, rfl, ⟨HO0.out⟩, (Below.refl _ w).alloc (Nat.le_refl _) _⟩
  case round =>
    obtain ⟨k, hk, rfl, hO, hB⟩ := hrel
    by_cases hlt : k < l.length
    · obtain ⟨b, off, rfl, _, e0, e1, e2, e3, e4, e5⟩ := HK.out k hlt
      have hbl : b < w.heap.size := World.block_lt_of_cell? w _ e0
      rw [← hB.cell (by exact hbl)] at e0 e1 e2 e3 e4 e5
      have hstep : (l.take (k + 1)).foldl putL [] = putL ((l.take k).foldl putL []) l[k] := by rw [List.take_succ_eq_append_getElem hlt, List.foldl_append]; rfl
      have hlen := foldl_putL_length (l.take k) []
      rw [List.length_take] at hlen
      have hcall := ref_Put hO.out hB.size (by simp at hlen; omega) l[k] (HS.out _ (List.getElem_mem hlt))
      rw [← hstep] at hcall
      have HC := Lib.hid hcall; clear hcall hstep hlen hO
      generalize l[k] = z at *
      unfold LTuple.val at HC
      go_wp2_with fail
      refine HC.out.mono ?_
      rintro r w1 ⟨v1, rfl, ho1, hb1⟩
      have HO1 := Lib.hid ho1; clear ho1
      go_wp2
      first
        | exact ⟨⟨k + 1, by omega, by go_num, ⟨HO1.out⟩, below_past hB hb1⟩, by simp [intOf] <;> omega⟩
        | (go_roundw
           case rel => exact ⟨k + 1, by omega, by go_num, ⟨HO1.out⟩, below_past hB hb1⟩
           case measure => simp [intOf]; omega)
    · have hO2 := hO.out
      rw [List.take_of_length_le (by omega)] at hO2
      have HO2 := Lib.hid hO2; clear hO2 hO
      go_wp2
      go_ret
      exact ⟨_, rfl, HO2.out, hB⟩
end Go.Proofs.YtnfkjodiielidaaGreat

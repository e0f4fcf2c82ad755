/- The document's layer 13: what two lists, a list and a tuple, and a list's sizes are. -/
import Derived.Test.YtnfkjodiielidaaGreatDoorWpeople
namespace Go.Proofs.YtnfkjodiielidaaGreatDoor
set_option linter.unusedVariables false
set_option linter.unusedSimpArgs false
open Go.RowKit

theorem tuple_neqB (x y : LTuple) (w : World) : (binOp .neq 61 x.val y.val).run Tryz.prog w = .ok (.bool (!decide (x = y))) w := by
  by_cases h : x = y
  · subst h; unfold LTuple.val; go_simp
  · rw [tuple_neq h]; simp [h]
theorem tuple_eqlB (x y : LTuple) (w : World) : (binOp .eql 61 x.val y.val).run Tryz.prog w = .ok (.bool (decide (x = y))) w := by
  by_cases h : x = y
  · subst h; unfold LTuple.val; go_simp
  · rw [tuple_eql_no h]; simp [h]

set_option maxRecDepth 100000 in
set_option maxHeartbeats 2000000 in
theorem ref_SameUsers {A B : Nat → Prop} {w : World} {xs ys : List LUser} {u v : Value} (hu : RepD A w (.slice 3 (xs.map LUser.d)) u) (hv : RepD B w (.slice 3 (ys.map LUser.d)) v) :
    Calls Tryz.prog 29 #[u, v] w fun e w' => e = .returned (.bool (decide (xs = ys))) ∧ Below w.heap.size w w' := by
  have mixed : Tryz.prog.follows Departure.mixedOrders = true := by kernel_rfl
  obtain ⟨a, c, rfl, _, hl, hk⟩ := hu.users
  obtain ⟨a', c', rfl, _, hl', hk'⟩ := hv.users
  have HK := Lib.hid hk; have HK' := Lib.hid hk'; clear hk hk' hu hv
  by_cases hn : xs.length = ys.length
  · generalize hr : decide (xs = ys) = r
    have HR := Lib.hid hr; clear hr
    rw [← hn]
    go_enter Tryz.func29, Tryz.ntmps29
    go_wp2
    go_loopw [5] (fun i wr => ∃ k : Nat, k ≤ xs.length ∧ i = .int .i64 k ∧ Below w.heap.size w wr ∧ Aside (xs.take k = ys.take k)) (fun i _ => xs.length - (intOf i).toNat)
    case atStart => exact ⟨0, by omega, rfl, Below.refl _ _, ⟨rfl⟩⟩
    case round =>
      obtain ⟨k, hk, rfl, hB, hF⟩ := hrel
      by_cases hlt : k < xs.length
      · obtain ⟨b, off, rfl, _, e0, e1, e2⟩ := HK.out k hlt
        obtain ⟨b', off', rfl, _, d0, d1, d2⟩ := HK'.out k (by omega)
        have hbl : b < w.heap.size := World.block_lt_of_cell? w _ e0
        have hbl' : b' < w.heap.size := World.block_lt_of_cell? w _ d0
        rw [← hB.cell (by exact hbl)] at e0 e1 e2
        rw [← hB.cell (by exact hbl')] at d0 d1 d2
        have hx : xs.take (k + 1) = xs.take k ++ [xs[k]] := List.take_succ_eq_append_getElem hlt
        have hy : ys.take (k + 1) = ys.take k ++ [ys[k]'(by omega)] := List.take_succ_eq_append_getElem (by omega)
        have HX := Lib.hid hx; have HY := Lib.hid hy; clear hx hy
        have hnx : xs[k] ≠ ys[k]'(by omega) → xs ≠ ys := fun h e => h (by subst e; rfl)
        have HN := Lib.hid hnx; clear hnx
        generalize xs[k] = x at *
        generalize ys[k]'(by omega) = y at *
        have heq := user_neq x y
        unfold LUser.val at heq
        by_cases hxy : x = y
        · rw [show (!decide (x = y)) = false by simp [hxy]] at heq
          have HXY := Lib.hid hxy; clear hxy HN
          go_wp2_with fail
          go_region_o
          go_wp2
          go_roundw
          case rel => exact ⟨k + 1, by omega, by go_num, hB.drew, ⟨by rw [HX.out, HY.out, hF.out, HXY.out]⟩⟩
          case measure => simp [intOf]; omega
        · rw [show (!decide (x = y)) = true by simp [hxy]] at heq
          have hf : false = r := by rw [← HR.out]; simp [HN.out hxy]
          have HF := Lib.hid hf; clear hf hxy HN
          go_wp2_with fail
          go_region_o
          go_wp2
          go_ret
          exact ⟨ret_bool HF.out, hB.drew⟩
      · have hkn : k = xs.length := by omega
        have ht : true = r := by
          rw [← HR.out]
          have := hF.out
          rw [hkn, List.take_of_length_le (Nat.le_refl _), hn, List.take_of_length_le (Nat.le_refl _)] at this
          simp [this]
        have HT := Lib.hid ht; clear ht hkn
        go_wp2
        go_ret
        exact ⟨ret_bool HT.out, hB⟩
  · have e : decide (xs = ys) = false := by simp; intro h; exact hn (by rw [h])
    rw [e]
    clear e
    have hni : ((xs.length : Int) = ys.length) = False := by simp; omega
    go_enter Tryz.func29, Tryz.ntmps29
    go_wp2
    go_ret
    exact ⟨rfl, Below.refl _ _⟩

set_option maxRecDepth 100000 in
set_option maxHeartbeats 2000000 in
theorem ref_Has {A : Nat → Prop} {w : World} {xs : List LTuple} {u : Value} (hu : RepD A w (.slice 6 (xs.map LTuple.d)) u) (t : LTuple) :
    Calls Tryz.prog 97 #[u, t.val] w fun e w' => e = .returned (.bool (decide (t ∈ xs))) ∧ Below w.heap.size w w' := by
  have mixed : Tryz.prog.follows Departure.mixedOrders = true := by kernel_rfl
  obtain ⟨a, c, rfl, _, hl, hk⟩ := hu.tuples
  have HK := Lib.hid hk; clear hk hu
  generalize hr : decide (t ∈ xs) = r
  have HR := Lib.hid hr; clear hr
  unfold LTuple.val
  have hB0 : Below w.heap.size w (w.alloc (.cells #[.string t.kind, .string t.id, .string t.rel, .string t.user.kind, .string t.user.id, .string t.user.rel] 61)) := (Below.refl _ w).alloc (Nat.le_refl _) _
  go_enter Tryz.func97, Tryz.ntmps97
  go_wp2
  go_loopw [5] (fun i wr => ∃ k : Nat, k ≤ xs.length ∧ i = .int .i64 k ∧ Below w.heap.size w wr ∧ wr.heap[w.heap.size]? = some (.cells #[.string t.kind, .string t.id, .string t.rel, .string t.user.kind, .string t.user.id, .string t.user.rel] 61) ∧ Aside (t ∉ xs.take k)) (fun i _ => xs.length - (intOf i).toNat)
  case atStart => exact ⟨0, by omega, rfl, hB0, heap_alloc_at rfl, ⟨by simp⟩⟩
  case round =>
    obtain ⟨k, hk, rfl, hB, hbx, hF⟩ := hrel
    by_cases hlt : k < xs.length
    · obtain ⟨b, off, rfl, _, e0, e1, e2, e3, e4, e5⟩ := HK.out k hlt
      have hbl : b < w.heap.size := World.block_lt_of_cell? w _ e0
      rw [← hB.cell (by exact hbl)] at e0 e1 e2 e3 e4 e5
      have c0 : wr.cell? ⟨w.heap.size, 0, none⟩ = some (.string t.kind) := by simp [World.cell?, hbx]
      have c1 : wr.cell? ⟨w.heap.size, 1, none⟩ = some (.string t.id) := by simp [World.cell?, hbx]
      have c2 : wr.cell? ⟨w.heap.size, 2, none⟩ = some (.string t.rel) := by simp [World.cell?, hbx]
      have c3 : wr.cell? ⟨w.heap.size, 3, none⟩ = some (.string t.user.kind) := by simp [World.cell?, hbx]
      have c4 : wr.cell? ⟨w.heap.size, 4, none⟩ = some (.string t.user.id) := by simp [World.cell?, hbx]
      have c5 : wr.cell? ⟨w.heap.size, 5, none⟩ = some (.string t.user.rel) := by simp [World.cell?, hbx]
      have HBX := Lib.hid hbx; clear hbx
      have hx : xs.take (k + 1) = xs.take k ++ [xs[k]] := List.take_succ_eq_append_getElem hlt
      have HX := Lib.hid hx; clear hx
      have hm : xs[k] ∈ xs := List.getElem_mem hlt
      have HM := Lib.hid hm; clear hm
      generalize xs[k] = x at *
      have heq := tuple_eqlB x t
      unfold LTuple.val at heq
      by_cases hxy : x = t
      · rw [show (decide (x = t)) = true by simp [hxy]] at heq
        have hf : true = r := by rw [← HR.out]; have := HM.out; rw [hxy] at this; simp [this]
        have HF := Lib.hid hf; clear hf hxy
        go_wp2_with fail
        go_region_o
        go_wp2
        go_ret
        exact ⟨ret_bool HF.out, hB.drew⟩
      · rw [show (decide (x = t)) = false by simp [hxy]] at heq
        have hno : t ∉ xs.take (k + 1) := by rw [HX.out]; simp only [List.mem_append, List.mem_singleton, not_or]; exact ⟨hF.out, fun e => hxy e.symm⟩
        have HNO := Lib.hid hno; clear hno hxy
        go_wp2_with fail
        go_region_o
        go_wp2
        go_roundw
        case rel => exact ⟨k + 1, by omega, by go_num, hB.drew, HBX.out, ⟨HNO.out⟩⟩
        case measure => simp [intOf]; omega
    · have hkn : k = xs.length := by omega
      have ht : false = r := by
        rw [← HR.out]
        have := hF.out
        rw [hkn, List.take_of_length_le (Nat.le_refl _)] at this
        simp [this]
      have HT := Lib.hid ht; clear ht hkn
      go_wp2
      go_ret
      exact ⟨ret_bool HT.out, hB⟩

theorem ref_parts (t : LTuple) (w : World) : Calls Tryz.prog 68 #[t.val] w fun r w' =>
    ∃ v, r = .returned v ∧ RepD (Past w) w' (.slice 1 (t.strs.map fun s => [.str s])) v ∧ Below w.heap.size w w' := by
  unfold LTuple.val
  go_enter Tryz.func68, Tryz.ntmps68
  go_wp2
  go_ret
  refine ⟨_, rfl, ?_, ((Below.refl _ w).alloc (Nat.le_refl _) _).alloc (by simp) _⟩
  exact repS_of_block (ss := [t.kind, t.id, t.rel, t.user.kind, t.user.id, t.user.rel]) (T := 9) (fr := (0, 0)) (heap_alloc_at (by simp)) (by simp [Past]) (by simp)

/-- Tuples that aren't too many or long. -/
def fewB (xs : List LTuple) : Bool := xs.all (fun t => t.strs.all fun s => decide (s.size ≤ 300)) && decide (xs.length ≤ 80)
set_option maxRecDepth 100000 in
set_option maxHeartbeats 2000000 in
theorem ref_Few {A : Nat → Prop} {w : World} {xs : List LTuple} {u : Value} (hu : RepD A w (.slice 6 (xs.map LTuple.d)) u) :
    Calls Tryz.prog 37 #[u] w fun e w' => e = .returned (.bool (fewB xs)) ∧ Below w.heap.size w w' := by
  obtain ⟨a, c, rfl, _, hl, hk⟩ := hu.tuples
  have HK := Lib.hid hk; clear hk hu
  have hend : (∀ j (hj : j < xs.length), xs[j].strs.all (fun s => decide (s.size ≤ 300)) = true) → fewB xs = decide (xs.length ≤ 80) := by
    intro h
    unfold fewB
    rw [List.all_eq_true.2 (fun t ht => by obtain ⟨j, hj, rfl⟩ := List.mem_iff_getElem.1 ht; exact h j hj)]
    simp
  have hno : ∀ j (hj : j < xs.length), xs[j].strs.all (fun s => decide (s.size ≤ 300)) = false → fewB xs = false := by
    intro j hj h
    unfold fewB
    rw [List.all_eq_false.2 ⟨xs[j], List.getElem_mem hj, by rw [h]; simp⟩]
    simp
  generalize fewB xs = r at *
  have HE := Lib.hid hend; have HN := Lib.hid hno; clear hend hno
  go_enter Tryz.func37, Tryz.ntmps37
  go_wp2
  go_loopw [3] (fun i wr => ∃ k : Nat, k ≤ xs.length ∧ i = .int .i64 k ∧ Below w.heap.size w wr ∧ Aside (∀ j (hj : j < xs.length), j < k → xs[j].strs.all (fun s => decide (s.size ≤ 300)) = true)) (fun i _ => xs.length - (intOf i).toNat)
  case atStart => exact ⟨0, by omega, rfl, Below.refl _ _, ⟨fun j hj h => by omega⟩⟩
  case round =>
    obtain ⟨k, hk, rfl, hB, hF⟩ := hrel
    by_cases hlt : k < xs.length
    · obtain ⟨b, off, rfl, _, e0, e1, e2, e3, e4, e5⟩ := HK.out k hlt
      have hbl : b < w.heap.size := World.block_lt_of_cell? w _ e0
      rw [← hB.cell (by exact hbl)] at e0 e1 e2 e3 e4 e5
      have hpa := ref_parts xs[k] wr
      have hnk := HN.out k hlt
      have hfk : xs[k].strs.all (fun s => decide (s.size ≤ 300)) = true → ∀ j (hj : j < xs.length), j < k + 1 → xs[j].strs.all (fun s => decide (s.size ≤ 300)) = true := by
        intro h j hj hjk
        rcases Nat.lt_or_ge j k with h1 | h1
        · exact hF.out j hj h1
        · have : j = k := by omega
          subst this; exact h
      generalize xs[k] = x at hpa hnk hfk e0 e1 e2 e3 e4 e5
      have HP := Lib.hid hpa; have HNK := Lib.hid hnk; have HFK := Lib.hid hfk
      have hls : x.strs.length = 6 := rfl
      clear hpa hnk hfk hF
      unfold LTuple.val at HP
      go_wp2_with fail
      refine HP.out.mono ?_
      rintro r' w1 ⟨v, rfl, hrep, hb1⟩
      have hB1 := below_past hB hb1
      obtain ⟨a1, c1, rfl, _, _, hs⟩ := hrep.strs
      have HS := Lib.hid hs; clear hs hrep hb1
      rw [hls]
      go_wp2
      go_loopw [5] (fun i wr2 => ∃ q : Nat, q ≤ 6 ∧ i = .int .i64 q ∧ wr2 = w1 ∧ Aside (∀ j (hj : j < x.strs.length), j < q → x.strs[j].size ≤ 300)) (fun i _ => 6 - (intOf i).toNat)
      case atStart => exact ⟨0, by omega, rfl, rfl, ⟨fun j hj h => by omega⟩⟩
      case round =>
        obtain ⟨q, hq, rfl, rfl, hG⟩ := hrel
        by_cases hlt2 : q < 6
        · obtain ⟨b2, off2, rfl, _, d0⟩ := HS.out q (by omega)
          by_cases hsz : (x.strs[q]'(by omega)).size ≤ 300
          · have hg2 : ∀ j (hj : j < x.strs.length), j < q + 1 → x.strs[j].size ≤ 300 := by
              intro j hj hjk
              rcases Nat.lt_or_ge j q with h1 | h1
              · exact hG.out j hj h1
              · have : j = q := by omega
                subst this; exact hsz
            have HG := Lib.hid hg2; clear hg2 hG
            generalize x.strs[q]'(by omega) = s at *
            go_wp2
            go_roundw
            case rel => exact ⟨q + 1, by omega, by go_num, by trivial, ⟨HG.out⟩⟩
            case measure => simp [intOf]; omega
          · have hf : false = r := by
              refine (HNK.out ?_).symm
              rw [List.all_eq_false]
              exact ⟨_, List.getElem_mem (by omega : q < x.strs.length), by simpa using hsz⟩
            have HF := Lib.hid hf; clear hf hG
            generalize x.strs[q]'(by omega) = s at *
            go_wp2
            go_ret
            exact ⟨ret_bool HF.out, hB1⟩
        · have hq6 : q = 6 := by omega
          have hall : x.strs.all (fun s => decide (s.size ≤ 300)) = true := by
            rw [List.all_eq_true]
            intro s hs
            obtain ⟨j, hj, rfl⟩ := List.mem_iff_getElem.1 hs
            simpa using hG.out j hj (by omega)
          have hF2 := HFK.out hall
          have HF2 := Lib.hid hF2; clear hF2 hall hG
          go_wp2
          go_roundw
          case rel => exact ⟨k + 1, by omega, by go_num, hB1, ⟨HF2.out⟩⟩
          case measure => simp [intOf]; omega
    · have hkn : k = xs.length := by omega
      have ht := HE.out (fun j hj => hF.out j hj (by omega))
      clear hkn
      by_cases h80 : xs.length ≤ 80
      · have HT : Hid (true = r) := by show true = r; rw [ht]; simp [h80]
        clear ht
        go_wp2
        go_ret
        exact ⟨ret_bool (by rw [← HT.out]; simp only [decide_eq_true_eq]; omega), hB⟩
      · have HT : Hid (false = r) := by show false = r; rw [ht]; simp [h80]
        clear ht
        go_wp2
        go_ret
        exact ⟨ret_bool (by rw [← HT.out]; simp only [decide_eq_false_iff_not]; omega), hB⟩
end Go.Proofs.YtnfkjodiielidaaGreatDoor

/- The document's layer 13: the users that tuples name. -/
import Derived.Test.YtnfkjodiielidaaGreatWref13
import Derived.Test.YtnfkjodiielidaaGreatWusers
import Derived.Test.YtnfkjodiielidaaGreatAppin
namespace Go.Proofs.YtnfkjodiielidaaGreat
set_option linter.unusedVariables false
set_option linter.unusedSimpArgs false
open Go.RowKit

/-- The same, of a list as it stands. -/
def usersL (L : List LTuple) (k i r : ByteArray) : List LUser := (L.filter (ofB k i r)).map (·.user)
theorem usersL_snoc (L : List LTuple) (t : LTuple) (k i r : ByteArray) : usersL (L ++ [t]) k i r = if ofB k i r t then usersL L k i r ++ [t.user] else usersL L k i r := by
  unfold usersL
  rw [List.filter_append, List.map_append]
  cases h : ofB k i r t <;> simp [h]
theorem usersL_length (L : List LTuple) (k i r : ByteArray) : (usersL L k i r).length ≤ L.length := by
  unfold usersL; rw [List.length_map]; exact List.length_filter_le _ _
set_option maxRecDepth 100000 in
set_option maxHeartbeats 4000000 in
theorem ref_Users {A : Nat → Prop} {w : World} {L : List LTuple} {u : Value} (hu : RepD A w (.slice 6 (L.map LTuple.d)) u) (hl : L.length ≤ 1000000) (k i r : ByteArray) :
    Calls Tryz.prog 13 #[u, .string k, .string i, .string r] w fun e w' => ∃ v, e = .returned v ∧ OwnL w' w.heap.size 24 3 LUser.cells v (usersL L k i r) ∧ Below w.heap.size w w' := by
  obtain ⟨a, c, rfl, _, _, hk⟩ := hu.tuples
  have HK := Lib.hid hk; clear hk hu
  have hO0 := own_made (w := w) (N := w.heap.size) rfl 24 3 LUser.cells
  have HO0 := Lib.hid hO0; clear hO0
  go_enter Tryz.func13, Tryz.ntmps13
  go_wp2
  go_loopw [9, 10] (fun v n wr => ∃ q : Nat, q ≤ L.length ∧ n = .int .i64 q ∧ Aside (OwnL wr w.heap.size 24 3 LUser.cells v (usersL (L.take q) k i r)) ∧ Below w.heap.size w wr) (fun _ n _ => L.length - (intOf n).toNat)
  case atStart => exact ⟨0, by omega, rfl, ⟨HO0.out⟩, (Below.refl _ w).alloc (Nat.le_refl _) _⟩
  case round =>
    obtain ⟨q, hq, rfl, hO, hB⟩ := hrel
    by_cases hlt : q < L.length
    · obtain ⟨b, off, rfl, _, e0, e1, e2, e3, e4, e5⟩ := HK.out q hlt
      have hbl : b < w.heap.size := World.block_lt_of_cell? w _ e0
      rw [← hB.cell (by exact hbl)] at e0 e1 e2 e3 e4 e5
      have hstep := usersL_snoc (L.take q) L[q] k i r
      rw [← List.take_succ_eq_append_getElem hlt] at hstep
      have hsz := hB.size
      have hln := usersL_length (L.take q) k i r
      rw [List.length_take] at hln
      have hb2 : ((usersL (L.take q) k i r).length + 1) * 48 ≤ 140737488355328 := by omega
      clear hln
      have HO := Lib.hid hO.out
      clear hO
      generalize usersL (L.take q) k i r = us at *
      generalize L[q] = t at *
      have e : ofB k i r t = (decide (t.kind = k) && decide (t.id = i) && decide (t.rel = r)) := rfl
      have d0 := toList_beq t.kind k
      have d1 := toList_beq t.id i
      have d2 := toList_beq t.rel r
      have done : usersL (L.take (q + 1)) k i r = us → ∃ q_1 : Nat, q_1 ≤ L.length ∧ Value.int .i64 ((q : Int) + 1) = .int .i64 q_1 ∧ Aside (OwnL wr w.heap.size 24 3 LUser.cells u9 (usersL (L.take q_1) k i r)) ∧ Below w.heap.size w wr := fun h => ⟨q + 1, by omega, by go_num, ⟨by rw [h]; exact HO.out⟩, hB⟩
      have HD := Lib.hid done
      clear done
      by_cases h0 : t.kind = k
      · by_cases h1 : t.id = i
        · by_cases h2 : t.rel = r
          · have hs : usersL (L.take (q + 1)) k i r = us ++ [t.user] := by rw [hstep, e]; simp [h0, h1, h2]
            subst h0 h1 h2
            clear e d0 d1 d2 hstep HD
            have HS := Lib.hid hs; clear hs
            go_wp2_with (at_builtin; refine wpList_app w.heap.size rfl _ _ _ 24 _ 3 48 rfl Tryz.underlying36 info_user rfl (by omega) (by omega) LUser.cells LUser.len LUser.one u9 us t.user rfl rfl rfl HO.out hsz hb2 ?_; intro v1 w4 hO4 hB4 _; have HO4 := Lib.hid hO4; clear hO4)
            first
              | exact ⟨⟨q + 1, by omega, by go_num, ⟨by rw [HS.out]; exact HO4.out⟩, hB.trans hB4⟩, by simp [intOf] <;> omega⟩
              | (go_roundw
                 case rel => exact ⟨q + 1, by omega, by go_num, ⟨by rw [HS.out]; exact HO4.out⟩, hB.trans hB4⟩
                 case measure => simp [intOf]; omega)
          · have hs : usersL (L.take (q + 1)) k i r = us := by rw [hstep, e]; simp [h2]
            simp only [h0, h1, h2, decide_true, decide_false] at d0 d1 d2
            subst h0 h1
            clear e hstep h2
            have hd := HD.out hs
            clear hs HD
            go_wp2
            first
              | exact ⟨hd, by simp [intOf] <;> omega⟩
              | (go_roundw
                 case rel => exact hd
                 case measure => simp [intOf]; omega)
        · have hs : usersL (L.take (q + 1)) k i r = us := by rw [hstep, e]; simp [h1]
          simp only [h0, h1, decide_true, decide_false] at d0 d1 d2
          subst h0
          clear e hstep h1 d2
          have hd := HD.out hs
          clear hs HD
          go_wp2
          first
            | exact ⟨hd, by simp [intOf] <;> omega⟩
            | (go_roundw
               case rel => exact hd
               case measure => simp [intOf]; omega)
      · have hs : usersL (L.take (q + 1)) k i r = us := by rw [hstep, e]; simp [h0]
        simp only [h0, decide_true, decide_false] at d0 d1 d2
        clear e hstep h0 d1 d2
        have hd := HD.out hs
        clear hs HD
        go_wp2
        first
          | exact ⟨hd, by simp [intOf] <;> omega⟩
          | (go_roundw
             case rel => exact hd
             case measure => simp [intOf]; omega)
    · have hO2 := hO.out
      rw [List.take_of_length_le (by omega)] at hO2
      have HO2 := Lib.hid hO2; clear hO2 hO
      go_wp2
      go_ret
      exact ⟨_, rfl, HO2.out, hB⟩
theorem usersL_canon (S : List LTuple) (k i r : ByteArray) : usersL (canon tLess S) k i r = usersOf S k i r := rfl
end Go.Proofs.YtnfkjodiielidaaGreat

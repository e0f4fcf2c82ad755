/- All, Users: what a set of tuples tells. -/
import Derived.Test.YtnfkjodiielidaaGreatWwhich
namespace Go.Proofs.YtnfkjodiielidaaGreat
set_option linter.unusedVariables false
set_option linter.unusedSimpArgs false
open Go.RowKit

theorem all1 (w : World) : HoldsAt w 41 #[] (fun _ => true) := by
  intro W _ t
  show Calls Tryz.prog _ #[t.val] W _
  unfold LTuple.val
  go_enter Tryz.func41, Tryz.ntmps41
  go_wp2
  go_ret
  exact ⟨rfl, (Below.refl _ W).alloc (Nat.le_refl _) _⟩

theorem facts_All {w : World} {fb mb : Nat} {S : List LTuple} (h : FactsAt w fb mb S) (hS : S.length ≤ 1000000000000) :
    Calls Tryz.prog 20 #[.pointer (some ⟨fb, 0, none⟩)] w fun r w' => ∃ v, r = .returned v ∧ OwnL w' w.heap.size 49 6 LTuple.cells v (canon tLess S) ∧ Below w.heap.size w w' := by
  have hcon := facts_which h 41 #[] _ (all1 w) (enters_of Tryz.func41 (by kernel_rfl) rfl) hS
  rw [show S.filter (fun _ => true) = S from List.filter_eq_self.2 (by simp)] at hcon
  go_enter Tryz.func20, Tryz.ntmps20
  go_wp2_with fail
  refine hcon.mono ?_
  rintro r w' ⟨v, rfl, ho, hb⟩
  have HO := Lib.hid ho; clear ho
  go_wp2
  go_ret
  exact ⟨_, rfl, HO.out, hb⟩

/-- The tuples of a relation to an object. -/
def ofB (k i r : ByteArray) (t : LTuple) : Bool := decide (t.kind = k) && decide (t.id = i) && decide (t.rel = r)
set_option maxRecDepth 100000 in
set_option maxHeartbeats 1000000 in
theorem users1 (k i r : ByteArray) (B : Nat) (w : World) (hB : B + 1 + 1 < w.heap.size) (h0 : w.cell? ⟨B, 0, none⟩ = some (.string k)) (h1 : w.cell? ⟨B + 1, 0, none⟩ = some (.string i)) (h2 : w.cell? ⟨B + 1 + 1, 0, none⟩ = some (.string r)) :
    HoldsAt w 30 #[.pointer (some ⟨B, 0, none⟩), .pointer (some ⟨B + 1, 0, none⟩), .pointer (some ⟨B + 1 + 1, 0, none⟩)] (ofB k i r) := by
  intro W hW t
  have c0 : W.cell? ⟨B, 0, none⟩ = some (.string k) := (hW.cell (p := ⟨B, 0, none⟩) (by show B < _; omega)).trans h0
  have c1 : W.cell? ⟨B + 1, 0, none⟩ = some (.string i) := (hW.cell (p := ⟨B + 1, 0, none⟩) (by show B + 1 < _; omega)).trans h1
  have c2 : W.cell? ⟨B + 1 + 1, 0, none⟩ = some (.string r) := (hW.cell (p := ⟨B + 1 + 1, 0, none⟩) (by show B + 1 + 1 < _; omega)).trans h2
  have n0 : B < W.heap.size := by have := hW.size; omega
  have n1 : B + 1 < W.heap.size := by have := hW.size; omega
  have n2 : B + 1 + 1 < W.heap.size := by have := hW.size; omega
  clear hB h0 h1 h2 hW
  show Calls Tryz.prog _ #[t.val, .pointer (some ⟨B, 0, none⟩), .pointer (some ⟨B + 1, 0, none⟩), .pointer (some ⟨B + 1 + 1, 0, none⟩)] W _
  have e : ofB k i r t = (decide (t.kind = k) && decide (t.id = i) && decide (t.rel = r)) := rfl
  have e0 := toList_beq t.kind k
  have e1 := toList_beq t.id i
  have e2 := toList_beq t.rel r
  generalize ofB k i r t = b at *
  generalize decide (t.kind = k) = b0 at *
  generalize decide (t.id = i) = b1 at *
  generalize decide (t.rel = r) = b2 at *
  unfold LTuple.val
  cases b0 <;> cases b1 <;> cases b2
  all_goals
    simp only [Bool.and_false, Bool.false_and, Bool.and_true] at e
    subst e
    go_enter Tryz.func30, Tryz.ntmps30
    go_wp2
    go_ret
    exact ⟨rfl, (Below.refl _ W).alloc (Nat.le_refl _) _⟩

/-- The users of a relation to an object, in order. -/
def usersOf (S : List LTuple) (k i r : ByteArray) : List LUser := ((canon tLess S).filter (ofB k i r)).map (·.user)
set_option maxRecDepth 100000 in
set_option maxHeartbeats 1000000 in
theorem facts_Users {w : World} {fb mb : Nat} {S : List LTuple} (h : FactsAt w fb mb S) (hS : S.length ≤ 1000000000000) (k i r : ByteArray) :
    Calls Tryz.prog 12 #[.pointer (some ⟨fb, 0, none⟩), .string k, .string i, .string r] w fun e w' => ∃ v, e = .returned v ∧ OwnL w' w.heap.size 24 3 LUser.cells v (usersOf S k i r) ∧ Below w.heap.size w w' := by
  have hu : usersOf S k i r = (canon tLess (S.filter (ofB k i r))).map (·.user) := by unfold usersOf; rw [canon_filter lin_tLess]
  have hlen : (canon tLess (S.filter (ofB k i r))).length ≤ S.length := Nat.le_trans (canon_length_le _) (List.length_filter_le _ _)
  have hB : Below w.heap.size w (((w.alloc (.cells #[.string k] 9)).alloc (.cells #[.string i] 9)).alloc (.cells #[.string r] 9)) := ((((Below.refl _ w).alloc (Nat.le_refl _) _).alloc (by simp) _).alloc (by simp; omega) _)
  have hcon := facts_which (h.below hB) 30 #[.pointer (some ⟨w.heap.size, 0, none⟩), .pointer (some ⟨w.heap.size + 1, 0, none⟩), .pointer (some ⟨w.heap.size + 1 + 1, 0, none⟩)] _
    (users1 k i r w.heap.size (((w.alloc (.cells #[.string k] 9)).alloc (.cells #[.string i] 9)).alloc (.cells #[.string r] 9)) (by simp) (by go_simp) (by go_simp) (by go_simp)) (enters_of Tryz.func30 (by kernel_rfl) rfl) hS
  rw [hu]
  generalize canon tLess (S.filter (ofB k i r)) = L at *
  have HC := Lib.hid hcon; clear hcon hu h
  go_enter Tryz.func12, Tryz.ntmps12
  go_wp2_with fail
  refine HC.out.mono ?_
  rintro e w1 ⟨v, rfl, ho, hb1⟩
  have hB1 := below_past hB hb1
  have hrep := (ho.tuples (A := fun b => w.heap.size ≤ b) (fun b hb => by simp at hb; omega) (by omega)).tuples
  obtain ⟨a, c, rfl, _, _, hk⟩ := hrep
  have HK := Lib.hid hk; clear hk ho hb1
  go_wp2
  go_loopw [9, 11, 16] (fun l _ n wr => ∃ q : Nat, q ≤ L.length ∧ n = .int .i64 q ∧ Aside (OwnL wr w1.heap.size 24 3 LUser.cells l ((L.take q).map (·.user))) ∧ Below w1.heap.size w1 wr)
    (fun _ _ n _ => L.length - (intOf n).toNat)
  case atStart => exact ⟨0, by omega, rfl, ⟨OwnL.nil _ _ _ _ _⟩, Below.refl _ _⟩
  case round =>
    obtain ⟨q, hq, rfl, hO, hBr⟩ := hrel
    by_cases hlt : q < L.length
    · obtain ⟨b, off, rfl, _, e0, e1, e2, e3, e4, e5⟩ := HK.out q hlt
      have hbl : b < w1.heap.size := World.block_lt_of_cell? w1 _ e0
      rw [← hBr.cell (by exact hbl)] at e0 e1 e2 e3 e4 e5
      have hsz := hBr.size
      have hl2 : ((L.take q).map (·.user)).length ≤ q := by simp; omega
      have hb2 : (((L.take q).map (·.user)).length + 1) * 48 ≤ 140737488355328 := by omega
      have hstep : (L.take (q + 1)).map (·.user) = (L.take q).map (·.user) ++ [L[q].user] := by rw [List.take_succ_eq_append_getElem hlt, List.map_append]; rfl
      have HS := Lib.hid hstep; clear hstep
      have hOa := hO.out.below ((Below.refl _ wr).alloc (Nat.le_refl _) (.cells L[q].cells.toArray 49))
      have HOa := Lib.hid hOa; clear hOa hO
      have hbw : w1.heap.size ≤ (wr.alloc (.cells L[q].cells.toArray 49)).heap.size := by simp; omega
      have hN : wr.heap.size + 1 = (wr.alloc (.cells L[q].cells.toArray 49)).heap.size := by simp
      unfold LTuple.cells at HOa hbw hN
      have HN := Lib.hid hN; clear hN
      generalize (L.take q).map (·.user) = us at *
      go_wp2_with (at_builtin; refine wpList_app w1.heap.size rfl _ _ _ 24 _ 3 48 rfl Tryz.underlying36 info_user rfl (by omega) (by omega) LUser.cells LUser.len LUser.one u9 us L[q].user rfl rfl HN.out HOa.out hbw hb2 ?_; intro v1 w4 hO4 hB4 _)
      exact ⟨⟨q + 1, by omega, by go_num, ⟨by rw [HS.out]; exact hO4⟩, (hBr.alloc hsz _).trans hB4⟩, by simp [intOf]; omega⟩
    · have hqq : q = L.length := by omega
      have hO2 := hO.out
      rw [hqq, List.take_of_length_le (Nat.le_refl _)] at hO2
      have HO2 := Lib.hid hO2; clear hO2 hqq hO
      go_wp2
      go_ret
      exact ⟨_, rfl, HO2.out.rebase hB1.size, hB1.trans (hBr.mono hB1.size)⟩
end Go.Proofs.YtnfkjodiielidaaGreat

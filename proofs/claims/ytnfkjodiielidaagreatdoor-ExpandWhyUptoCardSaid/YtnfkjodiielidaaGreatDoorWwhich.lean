/- Which tuples: those of which something holds, in order. -/
/- All, Users: what a set of tuples tells. -/
import Derived.Test.YtnfkjodiielidaaGreatDoorWsort
import Derived.Test.YtnfkjodiielidaaGreatDoorWfacts0
namespace Go.Proofs.YtnfkjodiielidaaGreatDoor
set_option linter.unusedVariables false
set_option linter.unusedSimpArgs false
open Go.RowKit

theorem info_tuple : (Tryz.prog.info? 61).map (fun i => (i.zero, i.size, i.bytes)) = some (some (.agg #[.string ⟨#[]⟩, .string ⟨#[]⟩, .string ⟨#[]⟩, .string ⟨#[]⟩, .string ⟨#[]⟩, .string ⟨#[]⟩]), 6, 96) := by kernel_rfl
theorem info_user : (Tryz.prog.info? 25).map (fun i => (i.zero, i.size, i.bytes)) = some (some (.agg #[.string ⟨#[]⟩, .string ⟨#[]⟩, .string ⟨#[]⟩]), 3, 48) := by kernel_rfl
theorem info_string : (Tryz.prog.info? 9).map (fun i => (i.zero, i.size, i.bytes)) = some (some (.string ⟨#[]⟩), 1, 16) := by kernel_rfl

/-- What a function value says of a tuple, in every world that has grown out of w. -/
def HoldsAt (w : World) (g : Nat) (lb : Array Value) (p : LTuple → Bool) : Prop :=
  ∀ W, Below w.heap.size w W → ∀ t : LTuple, Calls Tryz.prog g (#[t.val] ++ lb) W fun e W' => e = .returned (.bool (p t)) ∧ Below W.heap.size W W'

set_option maxRecDepth 100000 in
set_option maxHeartbeats 1000000 in
theorem facts_which {w : World} {fb mb : Nat} {S : List LTuple} (h : FactsAt w fb mb S) (g : Nat) (lb : Array Value) (p : LTuple → Bool) (hp : HoldsAt w g lb p)
    (eg : ∀ args w, (callFunc g args).run Tryz.prog w = .ok (.enter g args) w) (hS : S.length ≤ 1000000000000) :
    Calls Tryz.prog 71 #[.pointer (some ⟨fb, 0, none⟩), .func (.func g) #[] lb] w fun r w' => ∃ v, r = .returned v ∧ OwnL w' w.heap.size 61 6 LTuple.cells v (canon tLess (S.filter p)) ∧ Below w.heap.size w w' := by
  have hmlt := h.2.lt
  have hflt := h.lt
  obtain ⟨o, hrg, hit⟩ := IterAt.start (P := Tryz.prog) Tryz.underlying88 h.2
  have hcell := h.1
  have hN := h.nodup
  clear h
  have HI := Lib.hid hit; clear hit
  have HP := Lib.hid hp; clear hp
  have HN := Lib.hid hN; clear hN
  have HM := Lib.hid hmlt; clear hmlt
  go_enter Tryz.func71, Tryz.ntmps71
  go_wp2
  go_loopw [5] (fun v wr => ∃ (L : List LTuple) (left : List (LTuple × Unit)), Aside (OwnL wr (w.heap.size + 1) 61 6 LTuple.cells v L) ∧ Aside (IterAt wr w.heap.size mb LTuple.val oneV (S.map fun t => (t, ())) left) ∧ Below w.heap.size w wr ∧
      Aside ((L ++ (left.map (·.1)).filter p).Perm (S.filter p)))
    (fun _ wr => wr.rangeLeft mb w.heap.size)
  case atStart => exact ⟨[], _, ⟨OwnL.nil _ _ _ _ _⟩, ⟨HI.out⟩, (Below.refl _ w).alloc (Nat.le_refl _) _, ⟨by rw [map_fst]; exact List.Perm.refl _⟩⟩
  case round =>
    obtain ⟨L, left, hO, hI, hB, hPm⟩ := hrel
    have hLs : L.length ≤ S.length := by
      have := hPm.out.length_eq
      have h2 := List.length_filter_le p S
      simp at this; omega
    rcases hI.out.next (P := Tryz.prog) with ⟨h0, hnx⟩ | ⟨⟨t, u0⟩, left', w2, hpm, hnx, hit2, hfr, hsz, hen⟩
    · have hfin : L.Perm (S.filter p) := by have := hPm.out; rw [h0] at this; simpa using this
      have HF := Lib.hid hfin; clear hfin hPm hI
      have hsort := fun W v (hO : OwnL W (w.heap.size + 1) 61 6 LTuple.cells v L) => sort_tuples hO (HF.out.nodup_iff.2 (HN.out.filter p)) (by omega)
      have HS := Lib.hid hsort; clear hsort
      clear h0
      go_wp2_with fail
      refine (HS.out _ _ hO.out).mono ?_
      rintro r w3 ⟨rfl, hO3, hB3⟩
      have HO3 := Lib.hid hO3; clear hO3 hO
      go_wp2
      go_ret
      refine ⟨_, rfl, ?_, hB.trans (hB3.mono (by omega))⟩
      have e := canon_ext lin_tLess (l := L) (l' := S.filter p) (fun x => HF.out.mem_iff)
      rw [← e]
      exact HO3.out.rebase (by omega)
    · have hB2 : Below w.heap.size w w2 := hB.trans (hfr.below hB.size (fun k hk e => by omega))
      have hO2 := hO.out.fr hfr (fun k hk e => by have := (hO.out.block k hk).1; omega)
      have hMl := hit2.left_eq
      have hMr := hI.out.left_eq
      have HO2 := Lib.hid hO2
      have HI2 := Lib.hid hit2
      have HML := Lib.hid hMl
      have HMR := Lib.hid hMr
      have HPM := Lib.hid hpm
      have HSZ := Lib.hid hsz
      have HFR := Lib.hid hfr
      clear hO2 hit2 hMl hMr hpm hO hI hsz hfr
      unfold LTuple.val at hnx hen
      have hB3 : Below w.heap.size w (w2.alloc (.cells #[.string t.kind, .string t.id, .string t.rel, .string t.user.kind, .string t.user.id, .string t.user.rel] 61)) := hB2.alloc hB2.size _
      go_wp2_with fail
      refine (HP.out _ hB3 t).mono ?_
      rintro r w3 ⟨rfl, hb3⟩
      obtain ⟨hc3, hf3⟩ := bcell hb3
      have hB4 := below_past hB3 hb3
      have hbw : Below w2.heap.size w2 w3 := below_past ((Below.refl _ w2).alloc (Nat.le_refl _) _) hb3
      have HO3 := Lib.hid (HO2.out.below hbw)
      have HI3 := Lib.hid (HI2.out.below hbw)
      have hleft : left.length = left'.length + 1 := by rw [HPM.out.length_eq]; rfl
      have hsz3 := hb3.size
      have hsz2 : w.heap.size + 1 ≤ w2.heap.size := HI2.out.lt
      have hpm2 : ((left.map (·.1)).filter p).Perm ((t :: left'.map (·.1)).filter p) := (HPM.out.map (·.1)).filter p
      have HP2 := Lib.hid hpm2
      have HL := Lib.hid hleft
      clear hpm2 hleft hb3 hB3 hnx hen
      cases hpt : p t with
      | false =>
        have hfin : (L ++ (left'.map (·.1)).filter p).Perm (S.filter p) := by
          have h1 := HP2.out
          rw [List.filter_cons, hpt] at h1
          exact (h1.symm.append_left L).trans hPm.out
        have HF := Lib.hid hfin; clear hfin hpt
        go_wp2
        go_roundw
        case rel => exact ⟨L, left', ⟨HO3.out⟩, ⟨HI3.out⟩, hB4, ⟨HF.out⟩⟩
        case measure => rw [HI3.out.left_eq, HMR.out, HL.out]; omega
      | true =>
        have hfin : ((L ++ [t]) ++ (left'.map (·.1)).filter p).Perm (S.filter p) := by
          have h1 := HP2.out
          rw [List.filter_cons, hpt] at h1
          rw [List.append_assoc]
          exact (h1.symm.append_left L).trans hPm.out
        have HF := Lib.hid hfin; clear hfin hpt
        have hb1 : w.heap.size + 1 ≤ w3.heap.size := by simp at hsz3; omega
        have hb2 : (L.length + 1) * 96 ≤ 140737488355328 := by omega
        go_wp2_with (at_builtin; refine wpList_app (w.heap.size + 1) rfl _ _ _ 61 _ 6 96 rfl Tryz.underlying23 info_tuple rfl (by omega) (by omega) LTuple.cells LTuple.len LTuple.one u5 L t rfl rfl rfl HO3.out hb1 hb2 ?_; intro v1 w4 hO4 hB4' _)
        have hI4 := HI3.out.kept (hB4'.block w.heap.size (by omega)) (hB4'.block mb (by have := HM.out; omega))
        exact ⟨⟨L ++ [t], left', ⟨hO4⟩, ⟨hI4⟩, hB4.trans (hB4'.mono (by omega)), ⟨HF.out⟩⟩, by rw [hI4.left_eq, HMR.out, HL.out]; omega⟩
end Go.Proofs.YtnfkjodiielidaaGreatDoor
namespace Go.Proofs.YtnfkjodiielidaaGreatDoor
set_option linter.unusedVariables false
set_option linter.unusedSimpArgs false
open Go.RowKit

theorem all1 (w : World) : HoldsAt w 72 #[] (fun _ => true) := by
  intro W _ t
  show Calls Tryz.prog _ #[t.val] W _
  unfold LTuple.val
  go_enter Tryz.func72, Tryz.ntmps72
  go_wp2
  go_ret
  exact ⟨rfl, (Below.refl _ W).alloc (Nat.le_refl _) _⟩

theorem facts_All {w : World} {fb mb : Nat} {S : List LTuple} (h : FactsAt w fb mb S) (hS : S.length ≤ 1000000000000) :
    Calls Tryz.prog 40 #[.pointer (some ⟨fb, 0, none⟩)] w fun r w' => ∃ v, r = .returned v ∧ OwnL w' w.heap.size 61 6 LTuple.cells v (canon tLess S) ∧ Below w.heap.size w w' := by
  have hcon := facts_which h 72 #[] _ (all1 w) (enters_of Tryz.func72 (by kernel_rfl) rfl) hS
  rw [show S.filter (fun _ => true) = S from List.filter_eq_self.2 (by simp)] at hcon
  go_enter Tryz.func40, Tryz.ntmps40
  go_wp2_with fail
  refine hcon.mono ?_
  rintro r w' ⟨v, rfl, ho, hb⟩
  have HO := Lib.hid ho; clear ho
  go_wp2
  go_ret
  exact ⟨_, rfl, HO.out, hb⟩

/-- The tuples of a relation to an object. -/
def ofB (k i r : ByteArray) (t : LTuple) : Bool := decide (t.kind = k) && decide (t.id = i) && decide (t.rel = r)
set_option maxRecDepth 100000 in
set_option maxHeartbeats 1000000 in
theorem users1 (k i r : ByteArray) (B : Nat) (w : World) (hB : B + 1 + 1 < w.heap.size) (h0 : w.cell? ⟨B, 0, none⟩ = some (.string k)) (h1 : w.cell? ⟨B + 1, 0, none⟩ = some (.string i)) (h2 : w.cell? ⟨B + 1 + 1, 0, none⟩ = some (.string r)) :
    HoldsAt w 166 #[.pointer (some ⟨B, 0, none⟩), .pointer (some ⟨B + 1, 0, none⟩), .pointer (some ⟨B + 1 + 1, 0, none⟩)] (ofB k i r) := by
  intro W hW t
  have c0 : W.cell? ⟨B, 0, none⟩ = some (.string k) := (hW.cell (p := ⟨B, 0, none⟩) (by show B < _; omega)).trans h0
  have c1 : W.cell? ⟨B + 1, 0, none⟩ = some (.string i) := (hW.cell (p := ⟨B + 1, 0, none⟩) (by show B + 1 < _; omega)).trans h1
  have c2 : W.cell? ⟨B + 1 + 1, 0, none⟩ = some (.string r) := (hW.cell (p := ⟨B + 1 + 1, 0, none⟩) (by show B + 1 + 1 < _; omega)).trans h2
  have n0 : B < W.heap.size := by have := hW.size; omega
  have n1 : B + 1 < W.heap.size := by have := hW.size; omega
  have n2 : B + 1 + 1 < W.heap.size := by have := hW.size; omega
  clear hB h0 h1 h2 hW
  show Calls Tryz.prog _ #[t.val, .pointer (some ⟨B, 0, none⟩), .pointer (some ⟨B + 1, 0, none⟩), .pointer (some ⟨B + 1 + 1, 0, none⟩)] W _
  have e : ofB k i r t = (decide (t.kind = k) && decide (t.id = i) && decide (t.rel = r)) := rfl
  have e0 := toList_beq t.kind k
  have e1 := toList_beq t.id i
  have e2 := toList_beq t.rel r
  generalize ofB k i r t = b at *
  generalize decide (t.kind = k) = b0 at *
  generalize decide (t.id = i) = b1 at *
  generalize decide (t.rel = r) = b2 at *
  unfold LTuple.val
  cases b0 <;> cases b1 <;> cases b2
  all_goals
    simp only [Bool.and_false, Bool.false_and, Bool.and_true] at e
    subst e
    go_enter Tryz.func166, Tryz.ntmps166
    go_wp2
    go_ret
    exact ⟨rfl, (Below.refl _ W).alloc (Nat.le_refl _) _⟩

/-- The users of a relation to an object, in order. -/
def usersOf (S : List LTuple) (k i r : ByteArray) : List LUser := ((canon tLess S).filter (ofB k i r)).map (·.user)
set_option maxRecDepth 100000 in
set_option maxHeartbeats 1000000 in
theorem facts_Users {w : World} {fb mb : Nat} {S : List LTuple} (h : FactsAt w fb mb S) (hS : S.length ≤ 1000000000000) (k i r : ByteArray) :
    Calls Tryz.prog 130 #[.pointer (some ⟨fb, 0, none⟩), .string k, .string i, .string r] w fun e w' => ∃ v, e = .returned v ∧ OwnL w' w.heap.size 25 3 LUser.cells v (usersOf S k i r) ∧ Below w.heap.size w w' := by
  have hu : usersOf S k i r = (canon tLess (S.filter (ofB k i r))).map (·.user) := by unfold usersOf; rw [canon_filter lin_tLess]
  have hlen : (canon tLess (S.filter (ofB k i r))).length ≤ S.length := Nat.le_trans (canon_length_le _) (List.length_filter_le _ _)
  have hB : Below w.heap.size w (((w.alloc (.cells #[.string k] 9)).alloc (.cells #[.string i] 9)).alloc (.cells #[.string r] 9)) := ((((Below.refl _ w).alloc (Nat.le_refl _) _).alloc (by simp) _).alloc (by simp; omega) _)
  have hcon := facts_which (h.below hB) 166 #[.pointer (some ⟨w.heap.size, 0, none⟩), .pointer (some ⟨w.heap.size + 1, 0, none⟩), .pointer (some ⟨w.heap.size + 1 + 1, 0, none⟩)] _
    (users1 k i r w.heap.size (((w.alloc (.cells #[.string k] 9)).alloc (.cells #[.string i] 9)).alloc (.cells #[.string r] 9)) (by simp) (by go_simp) (by go_simp) (by go_simp)) (enters_of Tryz.func166 (by kernel_rfl) rfl) hS
  rw [hu]
  generalize canon tLess (S.filter (ofB k i r)) = L at *
  have HC := Lib.hid hcon; clear hcon hu h
  go_enter Tryz.func130, Tryz.ntmps130
  go_wp2_with fail
  refine HC.out.mono ?_
  rintro e w1 ⟨v, rfl, ho, hb1⟩
  have hB1 := below_past hB hb1
  have hrep := (ho.tuples (A := fun b => w.heap.size ≤ b) (fun b hb => by simp at hb; omega) (by omega)).tuples
  obtain ⟨a, c, rfl, _, _, hk⟩ := hrep
  have HK := Lib.hid hk; clear hk ho hb1
  go_wp2
  go_loopw [9, 11, 16] (fun l _ n wr => ∃ q : Nat, q ≤ L.length ∧ n = .int .i64 q ∧ Aside (OwnL wr w1.heap.size 25 3 LUser.cells l ((L.take q).map (·.user))) ∧ Below w1.heap.size w1 wr)
    (fun _ _ n _ => L.length - (intOf n).toNat)
  case atStart => exact ⟨0, by omega, rfl, ⟨OwnL.nil _ _ _ _ _⟩, Below.refl _ _⟩
  case round =>
    obtain ⟨q, hq, rfl, hO, hBr⟩ := hrel
    by_cases hlt : q < L.length
    · obtain ⟨b, off, rfl, _, e0, e1, e2, e3, e4, e5⟩ := HK.out q hlt
      have hbl : b < w1.heap.size := World.block_lt_of_cell? w1 _ e0
      rw [← hBr.cell (by exact hbl)] at e0 e1 e2 e3 e4 e5
      have hsz := hBr.size
      have hl2 : ((L.take q).map (·.user)).length ≤ q := by simp; omega
      have hb2 : (((L.take q).map (·.user)).length + 1) * 48 ≤ 140737488355328 := by omega
      have hstep : (L.take (q + 1)).map (·.user) = (L.take q).map (·.user) ++ [L[q].user] := by rw [List.take_succ_eq_append_getElem hlt, List.map_append]; rfl
      have HS := Lib.hid hstep; clear hstep
      have hOa := hO.out.below ((Below.refl _ wr).alloc (Nat.le_refl _) (.cells L[q].cells.toArray 61))
      have HOa := Lib.hid hOa; clear hOa hO
      have hbw : w1.heap.size ≤ (wr.alloc (.cells L[q].cells.toArray 61)).heap.size := by simp; omega
      have hN : wr.heap.size + 1 = (wr.alloc (.cells L[q].cells.toArray 61)).heap.size := by simp
      unfold LTuple.cells at HOa hbw hN
      have HN := Lib.hid hN; clear hN
      generalize (L.take q).map (·.user) = us at *
      go_wp2_with (at_builtin; refine wpList_app w1.heap.size rfl _ _ _ 25 _ 3 48 rfl Tryz.underlying29 info_user rfl (by omega) (by omega) LUser.cells LUser.len LUser.one u9 us L[q].user rfl rfl HN.out HOa.out hbw hb2 ?_; intro v1 w4 hO4 hB4 _)
      exact ⟨⟨q + 1, by omega, by go_num, ⟨by rw [HS.out]; exact hO4⟩, (hBr.alloc hsz _).trans hB4⟩, by simp [intOf]; omega⟩
    · have hqq : q = L.length := by omega
      have hO2 := hO.out
      rw [hqq, List.take_of_length_le (Nat.le_refl _)] at hO2
      have HO2 := Lib.hid hO2; clear hO2 hqq hO
      go_wp2
      go_ret
      exact ⟨_, rfl, HO2.out.rebase hB1.size, hB1.trans (hBr.mono hB1.size)⟩
end Go.Proofs.YtnfkjodiielidaaGreatDoor

/- Which tuples: those of which something holds, in order. -/
import Derived.Test.YtnfkjodiielidaaGreatWsort
import Derived.Test.YtnfkjodiielidaaGreatWfacts1
namespace Go.Proofs.YtnfkjodiielidaaGreat
set_option linter.unusedVariables false
set_option linter.unusedSimpArgs false
open Go.RowKit

theorem info_tuple : (Tryz.prog.info? 49).map (fun i => (i.zero, i.size, i.bytes)) = some (some (.agg #[.string ⟨#[]⟩, .string ⟨#[]⟩, .string ⟨#[]⟩, .string ⟨#[]⟩, .string ⟨#[]⟩, .string ⟨#[]⟩]), 6, 96) := by kernel_rfl
theorem info_user : (Tryz.prog.info? 24).map (fun i => (i.zero, i.size, i.bytes)) = some (some (.agg #[.string ⟨#[]⟩, .string ⟨#[]⟩, .string ⟨#[]⟩]), 3, 48) := by kernel_rfl
theorem info_string : (Tryz.prog.info? 9).map (fun i => (i.zero, i.size, i.bytes)) = some (some (.string ⟨#[]⟩), 1, 16) := by kernel_rfl

/-- What a function value says of a tuple, in every world that has grown out of w. -/
def HoldsAt (w : World) (g : Nat) (lb : Array Value) (p : LTuple → Bool) : Prop :=
  ∀ W, Below w.heap.size w W → ∀ t : LTuple, Calls Tryz.prog g (#[t.val] ++ lb) W fun e W' => e = .returned (.bool (p t)) ∧ Below W.heap.size W W'

set_option maxRecDepth 100000 in
set_option maxHeartbeats 1000000 in
theorem facts_which {w : World} {fb mb : Nat} {S : List LTuple} (h : FactsAt w fb mb S) (g : Nat) (lb : Array Value) (p : LTuple → Bool) (hp : HoldsAt w g lb p)
    (eg : ∀ args w, (callFunc g args).run Tryz.prog w = .ok (.enter g args) w) (hS : S.length ≤ 1000000000000) :
    Calls Tryz.prog 25 #[.pointer (some ⟨fb, 0, none⟩), .func (.func g) #[] lb] w fun r w' => ∃ v, r = .returned v ∧ OwnL w' w.heap.size 49 6 LTuple.cells v (canon tLess (S.filter p)) ∧ Below w.heap.size w w' := by
  have hmlt := h.2.lt
  have hflt := h.lt
  obtain ⟨o, hrg, hit⟩ := IterAt.start (P := Tryz.prog) Tryz.underlying46 h.2
  have hcell := h.1
  have hN := h.nodup
  clear h
  have HI := Lib.hid hit; clear hit
  have HP := Lib.hid hp; clear hp
  have HN := Lib.hid hN; clear hN
  have HM := Lib.hid hmlt; clear hmlt
  go_enter Tryz.func25, Tryz.ntmps25
  go_wp2
  go_loopw [5] (fun v wr => ∃ (L : List LTuple) (left : List (LTuple × Unit)), Aside (OwnL wr (w.heap.size + 1) 49 6 LTuple.cells v L) ∧ Aside (IterAt wr w.heap.size mb LTuple.val oneV (S.map fun t => (t, ())) left) ∧ Below w.heap.size w wr ∧
      Aside ((L ++ (left.map (·.1)).filter p).Perm (S.filter p)))
    (fun _ wr => wr.rangeLeft mb w.heap.size)
  case atStart => exact ⟨[], _, ⟨OwnL.nil _ _ _ _ _⟩, ⟨HI.out⟩, (Below.refl _ w).alloc (Nat.le_refl _) _, ⟨by rw [map_fst]; exact List.Perm.refl _⟩⟩
  case round =>
    obtain ⟨L, left, hO, hI, hB, hPm⟩ := hrel
    have hLs : L.length ≤ S.length := by
      have := hPm.out.length_eq
      have h2 := List.length_filter_le p S
      simp at this; omega
    rcases hI.out.next (P := Tryz.prog) with ⟨h0, hnx⟩ | ⟨⟨t, u0⟩, left', w2, hpm, hnx, hit2, hfr, hsz, hen⟩
    · have hfin : L.Perm (S.filter p) := by have := hPm.out; rw [h0] at this; simpa using this
      have HF := Lib.hid hfin; clear hfin hPm hI
      have hsort := fun W v (hO : OwnL W (w.heap.size + 1) 49 6 LTuple.cells v L) => sort_tuples hO (HF.out.nodup_iff.2 (HN.out.filter p)) (by omega)
      have HS := Lib.hid hsort; clear hsort
      clear h0
      go_wp2_with fail
      refine (HS.out _ _ hO.out).mono ?_
      rintro r w3 ⟨rfl, hO3, hB3⟩
      have HO3 := Lib.hid hO3; clear hO3 hO
      go_wp2
      go_ret
      refine ⟨_, rfl, ?_, hB.trans (hB3.mono (by omega))⟩
      have e := canon_ext lin_tLess (l := L) (l' := S.filter p) (fun x => HF.out.mem_iff)
      rw [← e]
      exact HO3.out.rebase (by omega)
    · have hB2 : Below w.heap.size w w2 := hB.trans (hfr.below hB.size (fun k hk e => by omega))
      have hO2 := hO.out.fr hfr (fun k hk e => by have := (hO.out.block k hk).1; omega)
      have hMl := hit2.left_eq
      have hMr := hI.out.left_eq
      have HO2 := Lib.hid hO2
      have HI2 := Lib.hid hit2
      have HML := Lib.hid hMl
      have HMR := Lib.hid hMr
      have HPM := Lib.hid hpm
      have HSZ := Lib.hid hsz
      have HFR := Lib.hid hfr
      clear hO2 hit2 hMl hMr hpm hO hI hsz hfr
      unfold LTuple.val at hnx hen
      have hB3 : Below w.heap.size w (w2.alloc (.cells #[.string t.kind, .string t.id, .string t.rel, .string t.user.kind, .string t.user.id, .string t.user.rel] 49)) := hB2.alloc hB2.size _
      go_wp2_with fail
      refine (HP.out _ hB3 t).mono ?_
      rintro r w3 ⟨rfl, hb3⟩
      obtain ⟨hc3, hf3⟩ := bcell hb3
      have hB4 := below_past hB3 hb3
      have hbw : Below w2.heap.size w2 w3 := below_past ((Below.refl _ w2).alloc (Nat.le_refl _) _) hb3
      have HO3 := Lib.hid (HO2.out.below hbw)
      have HI3 := Lib.hid (HI2.out.below hbw)
      have hleft : left.length = left'.length + 1 := by rw [HPM.out.length_eq]; rfl
      have hsz3 := hb3.size
      have hsz2 : w.heap.size + 1 ≤ w2.heap.size := HI2.out.lt
      have hpm2 : ((left.map (·.1)).filter p).Perm ((t :: left'.map (·.1)).filter p) := (HPM.out.map (·.1)).filter p
      have HP2 := Lib.hid hpm2
      have HL := Lib.hid hleft
      clear hpm2 hleft hb3 hB3 hnx hen
      cases hpt : p t with
      | false =>
        have hfin : (L ++ (left'.map (·.1)).filter p).Perm (S.filter p) := by
          have h1 := HP2.out
          rw [List.filter_cons, hpt] at h1
          exact (h1.symm.append_left L).trans hPm.out
        have HF := Lib.hid hfin; clear hfin hpt
        go_wp2
        go_roundw
        case rel => exact ⟨L, left', ⟨HO3.out⟩, ⟨HI3.out⟩, hB4, ⟨HF.out⟩⟩
        case measure => rw [HI3.out.left_eq, HMR.out, HL.out]; omega
      | true =>
        have hfin : ((L ++ [t]) ++ (left'.map (·.1)).filter p).Perm (S.filter p) := by
          have h1 := HP2.out
          rw [List.filter_cons, hpt] at h1
          rw [List.append_assoc]
          exact (h1.symm.append_left L).trans hPm.out
        have HF := Lib.hid hfin; clear hfin hpt
        have hb1 : w.heap.size + 1 ≤ w3.heap.size := by simp at hsz3; omega
        have hb2 : (L.length + 1) * 96 ≤ 140737488355328 := by omega
        go_wp2_with (at_builtin; refine wpList_app (w.heap.size + 1) rfl _ _ _ 49 _ 6 96 rfl Tryz.underlying22 info_tuple rfl (by omega) (by omega) LTuple.cells LTuple.len LTuple.one u5 L t rfl rfl rfl HO3.out hb1 hb2 ?_; intro v1 w4 hO4 hB4' _)
        have hI4 := HI3.out.kept (hB4'.block w.heap.size (by omega)) (hB4'.block mb (by have := HM.out; omega))
        exact ⟨⟨L ++ [t], left', ⟨hO4⟩, ⟨hI4⟩, hB4.trans (hB4'.mono (by omega)), ⟨HF.out⟩⟩, by rw [hI4.left_eq, HMR.out, HL.out]; omega⟩
end Go.Proofs.YtnfkjodiielidaaGreat

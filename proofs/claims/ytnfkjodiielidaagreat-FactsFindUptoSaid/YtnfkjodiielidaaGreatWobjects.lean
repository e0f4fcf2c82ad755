/- Objects: the names of a kind's objects that tuples name, sorted, each once. -/
import Derived.Test.YtnfkjodiielidaaGreatWstr
import Derived.Test.YtnfkjodiielidaaGreatWwhich
namespace Go.Proofs.YtnfkjodiielidaaGreat
set_option linter.unusedVariables false
set_option linter.unusedSimpArgs false
open Go.RowKit

def objs1 (k : ByteArray) (t : LTuple) : List ByteArray := (if decide (t.kind = k) then [t.id] else []) ++ (if decide (t.user.kind = k) then [t.user.id] else [])
/-- The names of a kind's objects, in order. -/
def objectsOf (S : List LTuple) (k : ByteArray) : List ByteArray := canon ltS (S.flatMap (objs1 k))
theorem objs1_len (k : ByteArray) (t : LTuple) : (objs1 k t).length ≤ 2 := by unfold objs1; split <;> split <;> simp
theorem objs_len (k : ByteArray) (S : List LTuple) : (S.flatMap (objs1 k)).length ≤ 2 * S.length := by
  induction S with
  | nil => simp
  | cons t S ih => rw [List.flatMap_cons, List.length_append]; have := objs1_len k t; simp only [List.length_cons]; omega

set_option maxRecDepth 100000 in
set_option maxHeartbeats 1000000 in
theorem facts_Objects {w : World} {fb mb : Nat} {S : List LTuple} (h : FactsAt w fb mb S) (hS : S.length ≤ 1000000000000) (k : ByteArray) :
    Calls Tryz.prog 15 #[.pointer (some ⟨fb, 0, none⟩), .string k] w fun r w' => ∃ v, r = .returned v ∧ OwnL w' w.heap.size 9 1 strCells v (objectsOf S k) ∧ Below w.heap.size w w' := by
  have hmlt := h.2.lt
  have hflt := h.lt
  obtain ⟨o, hrg, hit⟩ := IterAt.start (P := Tryz.prog) Tryz.underlying46 h.2
  have hcell := h.1
  clear h
  have HI := Lib.hid hit; clear hit
  have HM := Lib.hid hmlt; clear hmlt
  go_enter Tryz.func15, Tryz.ntmps15
  go_wp2
  go_loopw [5] (fun v wr => ∃ (L : List ByteArray) (left : List (LTuple × Unit)), Aside (OwnL wr (w.heap.size + 1) 9 1 strCells v L) ∧ Aside (IterAt wr w.heap.size mb LTuple.val oneV (S.map fun t => (t, ())) left) ∧ Below w.heap.size w wr ∧
      Aside ((L ++ (left.map (·.1)).flatMap (objs1 k)).Perm (S.flatMap (objs1 k))))
    (fun _ wr => wr.rangeLeft mb w.heap.size)
  case atStart => exact ⟨[], _, ⟨OwnL.nil _ _ _ _ _⟩, ⟨HI.out⟩, (Below.refl _ w).alloc (Nat.le_refl _) _, ⟨by rw [map_fst]; exact List.Perm.refl _⟩⟩
  case round =>
    obtain ⟨L, left, hO, hI, hB, hPm⟩ := hrel
    have hSl := objs_len k S
    have hLs : L.length ≤ 2 * S.length := by
      have := hPm.out.length_eq
      simp at this; simp at hSl; omega
    rcases hI.out.next (P := Tryz.prog) with ⟨h0, hnx⟩ | ⟨⟨t, u0⟩, left', w2, hpm, hnx, hit2, hfr, hsz, hen⟩
    · have hfin : L.Perm (S.flatMap (objs1 k)) := by have := hPm.out; rw [h0] at this; simpa using this
      have HF := Lib.hid hfin; clear hfin hPm hI
      have hsort := fun W v (hO : OwnL W (w.heap.size + 1) 9 1 strCells v L) => sort_strs hO (by omega)
      have HS := Lib.hid hsort; clear hsort
      clear h0
      go_wp2_with fail
      refine (HS.out _ _ hO.out).mono ?_
      rintro r w3 ⟨rfl, ys, hpe, hpw, hO3, hB3⟩
      have hcon := compact_strs hO3 (by have := hpe.length_eq; omega) hpw
      rw [canon_ext lin_ltS (l := ys) (l' := S.flatMap (objs1 k)) (fun x => hpe.mem_iff.trans HF.out.mem_iff)] at hcon
      have HC := Lib.hid hcon
      clear hcon hO3 hO hpe hpw
      go_wp2_with fail
      refine HC.out.mono ?_
      rintro r w4 ⟨v', rfl, hO4, hB4⟩
      have HO4 := Lib.hid hO4; clear hO4
      go_wp2
      go_ret
      exact ⟨_, rfl, HO4.out.rebase (by omega), (hB.trans (hB3.mono (by omega))).trans (hB4.mono (by omega))⟩
    · have hB2 : Below w.heap.size w w2 := hB.trans (hfr.below hB.size (fun k hk e => by omega))
      have hO2 := hO.out.fr hfr (fun k hk e => by have := (hO.out.block k hk).1; omega)
      have hMr := hI.out.left_eq
      have hlt2 : w.heap.size + 1 ≤ w2.heap.size := hit2.lt
      have hleft : left.length = left'.length + 1 := by rw [hpm.length_eq]; rfl
      have hfin : ((L ++ objs1 k t) ++ ((left'.map (·.1)).flatMap (objs1 k))).Perm (S.flatMap (objs1 k)) := by
        have h1 := (hpm.map (·.1)).flatMap_right (objs1 k)
        simp only [List.map_cons, List.flatMap_cons] at h1
        rw [List.append_assoc]
        exact (h1.symm.append_left L).trans hPm.out
      have hb0 : Below w2.heap.size w2 (w2.alloc (.cells #[.string t.kind, .string t.id, .string t.rel, .string t.user.kind, .string t.user.id, .string t.user.rel] 49)) := (Below.refl _ w2).alloc (Nat.le_refl _) _
      have hblk := hO2.block
      have HF := Lib.hid hfin
      have HO2 := Lib.hid (hO2.below hb0)
      have HI2 := Lib.hid (hit2.below hb0)
      have HMR := Lib.hid hMr
      have HL := Lib.hid hleft
      have HBK := Lib.hid hblk
      clear hfin hO2 hit2 hMr hleft hO hI hPm hpm hfr hb0 hsz hblk hSl
      unfold LTuple.val at hnx hen
      have hsz2 : (w2.alloc (.cells #[.string t.kind, .string t.id, .string t.rel, .string t.user.kind, .string t.user.id, .string t.user.rel] 49)).heap.size = w2.heap.size + 1 := by simp
      have hB3 : Below w.heap.size w (w2.alloc (.cells #[.string t.kind, .string t.id, .string t.rel, .string t.user.kind, .string t.user.id, .string t.user.rel] 49)) := hB2.alloc hB2.size _
      have e : objs1 k t = (if decide (t.kind = k) then [t.id] else []) ++ (if decide (t.user.kind = k) then [t.user.id] else []) := rfl
      have e0 := toList_beq t.kind k
      have e1 := toList_beq t.user.kind k
      have HSZ := Lib.hid hsz2; clear hsz2
      generalize decide (t.kind = k) = b0 at *
      generalize decide (t.user.kind = k) = b1 at *
      cases b0 <;> cases b1
      · simp only [Bool.false_eq_true, if_false, List.append_nil] at e
        rw [e, List.append_nil] at HF
        clear e HBK HSZ
        go_wp2
        go_roundw
        case rel => exact ⟨L, left', ⟨HO2.out⟩, ⟨HI2.out⟩, hB3, ⟨HF.out⟩⟩
        case measure => rw [HI2.out.left_eq, HMR.out, HL.out]; omega
      · simp only [Bool.false_eq_true, if_false, if_true, List.nil_append] at e
        rw [e] at HF
        clear e
        have hb2 : (L.length + 1) * 16 ≤ 140737488355328 := by omega
        go_wp2_with (at_builtin; refine wpList_app (w.heap.size + 1) rfl _ _ _ 9 _ 1 16 rfl Tryz.underlying40 info_string rfl (by omega) (by omega) strCells strCells_len strCells_one u5 L t.user.id rfl rfl HSZ.out.symm HO2.out (by rw [HSZ.out]; omega) hb2 ?_; intro v1 w4 hO4 hB4' _)
        have hsz4 := hB4'.size
        have hI4 := HI2.out.kept (hB4'.block w.heap.size (by omega)) (hB4'.block mb (by have := HM.out; omega))
        exact ⟨⟨L ++ [t.user.id], left', ⟨hO4⟩, ⟨hI4⟩, hB3.trans (hB4'.mono (by omega)), ⟨HF.out⟩⟩, by rw [hI4.left_eq, HMR.out, HL.out]; omega⟩
      · simp only [Bool.false_eq_true, if_false, if_true, List.append_nil] at e
        rw [e] at HF
        clear e
        have hb2 : (L.length + 1) * 16 ≤ 140737488355328 := by omega
        go_wp2_with (at_builtin; refine wpList_app (w.heap.size + 1) rfl _ _ _ 9 _ 1 16 rfl Tryz.underlying40 info_string rfl (by omega) (by omega) strCells strCells_len strCells_one u5 L t.id rfl rfl HSZ.out.symm HO2.out (by rw [HSZ.out]; omega) hb2 ?_; intro v1 w4 hO4 hB4' hF4; have hc4 := fun o => hF4.1.cell (b := w2.heap.size) (o := o) (by rw [HSZ.out]; omega) (fun e => by have := (HBK.out _ e).2; omega); have HO4 := Lib.hid hO4; clear hO4)
        have hsz4 := hB4'.size
        have hI4 := HI2.out.kept (hB4'.block w.heap.size (by omega)) (hB4'.block mb (by have := HM.out; omega))
        exact ⟨⟨L ++ [t.id], left', ⟨HO4.out⟩, ⟨hI4⟩, hB3.trans (hB4'.mono (by omega)), ⟨HF.out⟩⟩, by rw [hI4.left_eq, HMR.out, HL.out]; omega⟩
      · simp only [if_true] at e
        rw [e] at HF
        clear e
        have hb2 : (L.length + 1) * 16 ≤ 140737488355328 := by omega
        have hb3 : ((L ++ [t.id]).length + 1) * 16 ≤ 140737488355328 := by simp; omega
        have hf : (L ++ [t.id]) ++ [t.user.id] = L ++ ([t.id] ++ [t.user.id]) := by simp
        have HFF := Lib.hid hf; clear hf
        go_wp2_with (at_builtin; first | (refine wpList_app (w.heap.size + 1) rfl _ _ _ 9 _ 1 16 rfl Tryz.underlying40 info_string rfl (by omega) (by omega) strCells strCells_len strCells_one u5 L t.id rfl rfl HSZ.out.symm HO2.out (by rw [HSZ.out]; omega) hb2 ?_; intro v1 w4 hO4 hB4' hF4; have hc4 := fun o => hF4.1.cell (b := w2.heap.size) (o := o) (by rw [HSZ.out]; omega) (fun e => by have := (HBK.out _ e).2; omega); have HO4 := Lib.hid hO4; have HSZ4 := Lib.hid hB4'.size; clear hO4) | (refine wpList_app (w.heap.size + 1) rfl _ _ _ 9 _ 1 16 rfl Tryz.underlying40 info_string rfl (by omega) (by omega) strCells strCells_len strCells_one v1 (L ++ [t.id]) t.user.id rfl rfl rfl HO4.out (by have := HSZ4.out; rw [HSZ.out] at this; omega) hb3 ?_; intro v5 w5 hO5 hB5 _))
        have hsz4 := HSZ4.out
        have hsz5 := hB5.size
        rw [HSZ.out] at hsz4
        have hI4 := HI2.out.kept (hB4'.block w.heap.size (by omega)) (hB4'.block mb (by have := HM.out; omega))
        have hI5 := hI4.kept (hB5.block w.heap.size (by omega)) (hB5.block mb (by have := HM.out; omega))
        exact ⟨⟨L ++ ([t.id] ++ [t.user.id]), left', ⟨by rw [← HFF.out]; exact hO5⟩, ⟨hI5⟩, (hB3.trans (hB4'.mono (by omega))).trans (hB5.mono (by omega)), ⟨HF.out⟩⟩, by rw [hI5.left_eq, HMR.out, HL.out]; omega⟩
end Go.Proofs.YtnfkjodiielidaaGreat

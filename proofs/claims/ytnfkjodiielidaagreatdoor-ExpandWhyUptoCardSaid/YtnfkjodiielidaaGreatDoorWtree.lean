/- A tree: who has a relation to an object, and by what. -/
import Derived.Test.YtnfkjodiielidaaGreatDoorWgrow6
import Derived.Test.YtnfkjodiielidaaGreatDoorWnames
namespace Go.Proofs.YtnfkjodiielidaaGreatDoor
set_option linter.unusedVariables false
set_option linter.unusedSimpArgs false
open Go.RowKit

def tZero : LTree := .mk ⟨#[]⟩ [] []
/-- Why there is no tree, as a number. -/
def codeT (l : List LKind) (S : List LTuple) (o : LUser) (d n : Int) : Int :=
  if d < 0 ∨ 16 < d then 142 else if codeR l ≠ 0 then codeR l else if (findL l o.kind o.rel).isSome = false then 140 else if max n 0 < ((growT l S d.toNat o).natSize : Int) then 141 else 0
def treeT (l : List LKind) (S : List LTuple) (o : LUser) (d n : Int) : LTree := if codeT l S o d n = 0 then growT l S d.toNat o else tZero
set_option maxRecDepth 100000 in
set_option maxHeartbeats 8000000 in
theorem expand_Tree {A : Nat → Prop} {W : World} {l : List LKind} {S : List LTuple} {fb mb : Nat} {ul : Value} (hu : RepD A W (.slice 2 (l.map LKind.d)) ul) (hsl : slimL l) (hf : FactsAt W fb mb S) (hS : S.length ≤ 1000000) (hw : WordsAt W) (o : LUser) (d n : Int) (hn : n ≤ 1000000000000) :
    Calls Tryz.prog 18 #[ul, .pointer (some ⟨fb, 0, none⟩), .agg #[.string o.kind, .string o.id, .string o.rel], .int .i64 d, .int .i64 n] W fun r W' => ∃ row : TRow, r = .returned (.tuple #[row.val, .int .i64 (codeT l S o d n)]) ∧ Below W.heap.size W W' ∧ TreeAt (fun b => W.heap.size ≤ b) W' (treeT l S o d n) row := by
  obtain ⟨a, c, us, hul, _⟩ := hu.kindsCs
  subst hul
  have hw1 : Below W.heap.size W ((W.alloc (.cells #[.string o.kind, .string o.id, .string o.rel] 25)).alloc (.cells #[.string ⟨#[]⟩, .slice none 0 0, .slice none 0 0] 32)) := ((Below.refl _ W).alloc (Nat.le_refl _) _).alloc (by simp) _
  have a0 : ((W.alloc (.cells #[.string o.kind, .string o.id, .string o.rel] 25)).alloc (.cells #[.string ⟨#[]⟩, .slice none 0 0, .slice none 0 0] 32)).heap[W.heap.size]? = some (.cells #[.string o.kind, .string o.id, .string o.rel] 25) := (Below.heap_alloc _ _ _ (by simp)).trans (heap_alloc_at rfl)
  have a1 : ((W.alloc (.cells #[.string o.kind, .string o.id, .string o.rel] 25)).alloc (.cells #[.string ⟨#[]⟩, .slice none 0 0, .slice none 0 0] 32)).heap[W.heap.size + 1]? = some (.cells #[.string ⟨#[]⟩, .slice none 0 0, .slice none 0 0] 32) := heap_alloc_at (by simp)
  have hchk := fun W' (hB : Below W.heap.size W W') => rule_Check (hu.old hB) (hw.old hB)
  have hfind := fun W' (hB : Below W.heap.size W W') => find_uni (hu.old hB) hsl o.kind o.rel
  obtain ⟨CT, hct⟩ : ∃ x, x = codeT l S o d n := ⟨_, rfl⟩
  obtain ⟨TT, htt⟩ : ∃ x, x = treeT l S o d n := ⟨_, rfl⟩
  unfold treeT at htt
  rw [← hct] at htt
  have hgoal : codeT l S o d n = CT ∧ treeT l S o d n = TT := ⟨hct.symm, by unfold treeT; rw [← hct, htt]⟩
  rw [hgoal.1, hgoal.2]
  clear hgoal
  unfold codeT at hct
  have HW1 := Lib.hid hw1; have HA0 := Lib.hid a0; have HA1 := Lib.hid a1; have HCHK := Lib.hid hchk; have HFIND := Lib.hid hfind; have HU := Lib.hid hu; have HF := Lib.hid hf
  have hfin : ∀ (w2 : World) (t : LTree) (row : TRow), Below W.heap.size W w2 → TreeAt (fun b => W.heap.size + 1 < b) w2 t row →
      Below W.heap.size W (w2.setCells (W.heap.size + 1) 0 row.cells) ∧ TreeAt (fun b => W.heap.size ≤ b) (w2.setCells (W.heap.size + 1) 0 row.cells) t row := by
    intro w2 t row hB hT
    have hFr := fr_setCells (g := W.heap.size + 1) row.cells 0 w2
    exact ⟨⟨hFr.os.trans hB.os, hFr.tape.trans hB.tape, hFr.output.trans hB.output, Nat.le_trans hB.size hFr.size, fun i hi => (hFr.block i (Nat.lt_of_lt_of_le hi hB.size) (by omega)).trans (hB.block i hi)⟩,
      (hT.keep fun b hb hlt => hFr.block b hlt (by omega)).mono fun b hb _ => by omega⟩
  have HFIN := Lib.hid hfin
  clear hw1 a0 a1 hchk hfind hu hf hfin hw
  by_cases hd1 : d < 0 ∨ 16 < d
  · rw [if_pos hd1] at hct
    subst hct
    obtain rfl : TT = tZero := by rw [htt]; rfl
    have hdone := HFIN.out _ tZero ⟨⟨#[]⟩, ⟨none, 0, 0⟩, ⟨none, 0, 0⟩⟩ HW1.out ⟨rfl, .nil _ _ _, .nil _ _ _⟩
    have HDN := Lib.hid hdone
    clear hdone
    by_cases hd2 : d < 0
    · go_enter Tryz.func18, Tryz.ntmps18
      go_wp2
      exact bodyPost_ret (v := .tuple #[TRow.val ⟨⟨#[]⟩, ⟨none, 0, 0⟩, ⟨none, 0, 0⟩⟩, .int .i64 142]) (by simp [results, Tryz.results18, go_sem, TRow.val]) rfl ⟨_, rfl, HW1.out, rfl, .nil _ _ _, .nil _ _ _⟩
    · have hd3 : 16 < d := hd1.resolve_left hd2
      go_enter Tryz.func18, Tryz.ntmps18
      go_wp2
      exact bodyPost_ret (v := .tuple #[TRow.val ⟨⟨#[]⟩, ⟨none, 0, 0⟩, ⟨none, 0, 0⟩⟩, .int .i64 142]) (by simp [results, Tryz.results18, go_sem, TRow.val]) rfl ⟨_, rfl, HW1.out, rfl, .nil _ _ _, .nil _ _ _⟩
  · rw [if_neg hd1] at hct
    have hd2 : ¬ d < 0 := fun h => hd1 (.inl h)
    have hd3 : ¬ 16 < d := fun h => hd1 (.inr h)
    have hcall := HCHK.out _ HW1.out
    have HC := Lib.hid hcall
    have HCT := Lib.hid hct; have HTT := Lib.hid htt
    clear hcall hd1 hct htt
    go_enter Tryz.func18, Tryz.ntmps18
    go_wp2_with fail
    refine HC.out.mono ?_
    rintro r w2 ⟨rfl, hb2⟩
    generalize hwq : (W.alloc (.cells #[.string o.kind, .string o.id, .string o.rel] 25)).alloc (.cells #[.string ⟨#[]⟩, .slice none 0 0, .slice none 0 0] 32) = w1 at *
    clear hwq
    have hl0 := (Array.getElem?_eq_some_iff.1 HA0.out).1
    have hl1 := (Array.getElem?_eq_some_iff.1 HA1.out).1
    have hboxes : ∀ w, Below w1.heap.size w1 w → (w.cell? ⟨W.heap.size, 0, none⟩ = some (.string o.kind) ∧ w.cell? ⟨W.heap.size, 1, none⟩ = some (.string o.id) ∧ w.cell? ⟨W.heap.size, 2, none⟩ = some (.string o.rel)) ∧ (w.cell? ⟨W.heap.size + 1, 0, none⟩ = some (.string ⟨#[]⟩) ∧ w.cell? ⟨W.heap.size + 1, 1, none⟩ = some (.slice none 0 0) ∧ w.cell? ⟨W.heap.size + 1, 2, none⟩ = some (.slice none 0 0)) ∧ ∀ j, w.frozen? ⟨W.heap.size + 1, j, none⟩ = false := by
      intro w hb
      have za := (hb.block _ hl0).trans HA0.out
      have zb := (hb.block _ hl1).trans HA1.out
      refine ⟨⟨?_, ?_, ?_⟩, ⟨?_, ?_, ?_⟩, fun j => ?_⟩ <;> simp [World.cell?, World.frozen?, za, zb]
    have HBX := Lib.hid hboxes
    clear hboxes
    obtain ⟨⟨y0, y1, y2⟩, ⟨r0, r1, r2⟩, rz⟩ := HBX.out w2 hb2
    have HB2 := Lib.hid hb2
    clear hb2 HC
    by_cases hck : codeR l ≠ 0
    · have hct := HCT.out
      rw [if_pos hck] at hct
      have htt := HTT.out
      rw [hct, if_neg hck] at htt
      subst hct htt
      clear HCT HTT
      have hdone := HFIN.out w2 tZero ⟨⟨#[]⟩, ⟨none, 0, 0⟩, ⟨none, 0, 0⟩⟩ (HW1.out.trans (HB2.out.mono HW1.out.size)) ⟨rfl, .nil _ _ _, .nil _ _ _⟩
      have HDN := Lib.hid hdone
      clear hdone
      go_wp2
      exact bodyPost_ret (v := .tuple #[TRow.val ⟨⟨#[]⟩, ⟨none, 0, 0⟩, ⟨none, 0, 0⟩⟩, .int .i64 (codeR l)]) (by simp [results, Tryz.results18, go_sem, TRow.val, r0, r1, r2]) rfl ⟨_, rfl, HDN.out.1, HDN.out.2⟩
    · have hck0 : codeR l = 0 := Classical.not_not.1 hck
      have hct := HCT.out
      rw [if_neg hck] at hct
      rw [hck0]
      have hcall := HFIND.out w2 (HW1.out.trans (HB2.out.mono HW1.out.size))
      have HC := Lib.hid hcall
      have HCT := Lib.hid hct
      clear hcall hck hck0 hct
      generalize hfo : findL l o.kind o.rel = fo at *
      clear hfo
      go_wp2_with fail
      refine HC.out.mono ?_
      rintro r w3 ⟨q, va, vc, rfl, hrq, hqe, hb3⟩
      clear HC hrq hqe
      have hB3 := below_past HB2.out hb3
      have HB3 := Lib.hid hB3
      clear hb3 hB3 y0 y1 y2 r0 r1 r2 rz
      have hw3 := HB3.out.size
      have hB4 : Below w1.heap.size w1 (w3.alloc (.cells #[.string q.op, .string q.name, .string q.of, .slice va q.parts.length vc] 42)) := HB3.out.alloc hw3 _
      have HB4 := Lib.hid hB4
      obtain ⟨_, ⟨r0, r1, r2⟩, rz⟩ := HBX.out _ hB4
      clear hB4
      by_cases his : fo.isSome = false
      · have hct := HCT.out
        rw [if_pos his] at hct
        have htt := HTT.out
        rw [hct, if_neg (by omega)] at htt
        subst hct htt
        clear HCT HTT
        have hdone := HFIN.out _ tZero ⟨⟨#[]⟩, ⟨none, 0, 0⟩, ⟨none, 0, 0⟩⟩ (HW1.out.trans (HB4.out.mono HW1.out.size)) ⟨rfl, .nil _ _ _, .nil _ _ _⟩
        have HDN := Lib.hid hdone
        clear hdone
        go_wp2
        exact bodyPost_ret (v := .tuple #[TRow.val ⟨⟨#[]⟩, ⟨none, 0, 0⟩, ⟨none, 0, 0⟩⟩, .int .i64 140]) (by simp [results, Tryz.results18, go_sem, TRow.val, r0, r1, r2]) rfl ⟨_, rfl, HDN.out.1, HDN.out.2⟩
      · have his2 : fo.isSome = true := eq_true_of_ne_false his
        have hct := HCT.out
        rw [if_neg his] at hct
        have HCT := Lib.hid hct
        clear hct his r0 r1 r2 rz
        have h16 : d.toNat ≤ 1000 := by omega
        have hdt : ((d.toNat : Nat) : Int) = d := by omega
        have hG := fun W' left (h0 : 0 ≤ left) (hl : left ≤ 1000000000000) hst => grown_all (gb := w3.heap.size + 1) (fb := fb) (mb := mb) (ul := .slice a l.length c) hsl hS d.toNat h16 o W' left h0 hl hst
        simp only [hdt] at hG
        have hb5 : Below w1.heap.size w1 ((w3.alloc (.cells #[.string q.op, .string q.name, .string q.of, .slice va q.parts.length vc] 42)).alloc (.cells #[.slice a l.length c, .pointer (some ⟨fb, 0, none⟩), .int .i64 (max n 0)] 86)) := HB4.out.alloc HB4.out.size _
        have hbW : Below W.heap.size W ((w3.alloc (.cells #[.string q.op, .string q.name, .string q.of, .slice va q.parts.length vc] 42)).alloc (.cells #[.slice a l.length c, .pointer (some ⟨fb, 0, none⟩), .int .i64 (max n 0)] 86)) := HW1.out.trans (hb5.mono HW1.out.size)
        have ag : ((w3.alloc (.cells #[.string q.op, .string q.name, .string q.of, .slice va q.parts.length vc] 42)).alloc (.cells #[.slice a l.length c, .pointer (some ⟨fb, 0, none⟩), .int .i64 (max n 0)] 86)).heap[w3.heap.size + 1]? = some (.cells #[.slice a l.length c, .pointer (some ⟨fb, 0, none⟩), .int .i64 (max n 0)] 86) := heap_alloc_at (by simp)
        have hf2 := HF.out
        have hst : GrSt ((w3.alloc (.cells #[.string q.op, .string q.name, .string q.of, .slice va q.parts.length vc] 42)).alloc (.cells #[.slice a l.length c, .pointer (some ⟨fb, 0, none⟩), .int .i64 (max n 0)] 86)) (w3.heap.size + 1) fb mb (.slice a l.length c) l S (max n 0) := by
          have hfl := hf2.lt
          have hml := hf2.2.lt
          have hws := HW1.out.size
          have hall : ∀ wg : World, Below W.heap.size W wg → wg.heap[w3.heap.size + 1]? = some (.cells #[.slice a l.length c, .pointer (some ⟨fb, 0, none⟩), .int .i64 (max n 0)] 86) → GrSt wg (w3.heap.size + 1) fb mb (.slice a l.length c) l S (max n 0) := fun wg hbg hag =>
            ⟨by simp [World.cell?, hag], by simp [World.cell?, hag], by simp [World.cell?, hag], by simp [World.frozen?, hag], hf2.below hbg, ((HU.out.mono (A' := fun b => b < W.heap.size) fun b _ hlt => hlt).old hbg).mono fun b hb _ => by omega, by omega, by omega⟩
          exact hall _ hbW ag
        have hcall := hG _ _ (by omega) (by omega) hst
        have HC := Lib.hid hcall
        obtain ⟨⟨y0, y1, y2⟩, _, _⟩ := HBX.out _ hb5
        have HB5 := Lib.hid hb5; have HST := Lib.hid hst
        clear hcall hst hb5 hbW hG hf2 ag
        go_wp2_with fail
        refine HC.out.mono ?_
        rintro r w6 ⟨row, lk, rfl, hF6, hS6, hT6⟩
        have hb6 : Below w1.heap.size w1 w6 := ⟨hF6.os.trans HB5.out.os, hF6.tape.trans HB5.out.tape, hF6.output.trans HB5.out.output, Nat.le_trans HB5.out.size hF6.size, fun i hi => (hF6.block i (Nat.lt_of_lt_of_le hi HB5.out.size) (by omega)).trans (HB5.out.block i hi)⟩
        have hb7 : Below w1.heap.size w1 (w6.alloc (.cells #[.string row.op, .slice row.us.a row.us.n row.us.c, .slice row.ps.a row.ps.n row.ps.c] 32)) := hb6.alloc hb6.size _
        have hb67 : Below w6.heap.size w6 (w6.alloc (.cells #[.string row.op, .slice row.us.a row.us.n row.us.c, .slice row.ps.a row.ps.n row.ps.c] 32)) := (Below.refl _ _).alloc (Nat.le_refl _) _
        have g2 := (hS6.next hb67).c2
        obtain ⟨_, ⟨r0, r1, r2⟩, rz⟩ := HBX.out _ hb7
        have h5s := HB5.out.size
        by_cases hneg : lk < 0
        · have hbig : max n 0 < ((growT l S d.toNat o).natSize : Int) := by
            rcases hT6 with ⟨q1, q2, _⟩ | ⟨q1, _⟩
            · omega
            · exact q1
          have hct := HCT.out
          rw [if_pos hbig] at hct
          have htt := HTT.out
          rw [hct, if_neg (by omega)] at htt
          subst hct htt
          clear HCT HTT
          have hdone := HFIN.out _ tZero ⟨⟨#[]⟩, ⟨none, 0, 0⟩, ⟨none, 0, 0⟩⟩ (HW1.out.trans (hb7.mono HW1.out.size)) ⟨rfl, .nil _ _ _, .nil _ _ _⟩
          have HDN := Lib.hid hdone
          clear hdone hF6 hS6 hT6 hb6 hb7 hb67 y0 y1 y2
          unfold TRow.val
          go_wp2
          exact bodyPost_ret (v := .tuple #[TRow.val ⟨⟨#[]⟩, ⟨none, 0, 0⟩, ⟨none, 0, 0⟩⟩, .int .i64 141]) (by simp [results, Tryz.results18, go_sem, TRow.val, r0, r1, r2]) rfl ⟨_, rfl, HDN.out.1, HDN.out.2⟩
        · have hT7 : TreeAt (fun b => W.heap.size + 1 < b) (w6.alloc (.cells #[.string row.op, .slice row.us.a row.us.n row.us.c, .slice row.ps.a row.ps.n row.ps.c] 32)) (growT l S d.toNat o) row ∧ ((growT l S d.toNat o).natSize : Int) ≤ max n 0 := by
            rcases hT6 with ⟨q1, q2, q3⟩ | ⟨q1, q2⟩
            · refine ⟨(q3.mono (A' := fun b => w1.heap.size ≤ b ∧ b < w6.heap.size) fun b hb hlt => ⟨by have : _ ≤ b := hb; omega, hlt⟩).keep (W' := w6.alloc (.cells #[.string row.op, .slice row.us.a row.us.n row.us.c, .slice row.ps.a row.ps.n row.ps.c] 32)) (fun b hb _ => Below.heap_alloc _ _ _ hb.2) |>.mono fun b hb _ => by have := hb.1; omega, q1⟩
            · omega
          have hct := HCT.out
          rw [if_neg (by have := hT7.2; omega)] at hct
          have htt := HTT.out
          rw [hct, if_pos rfl] at htt
          subst hct htt
          clear HCT HTT
          have hdone := HFIN.out _ _ row (HW1.out.trans (hb7.mono HW1.out.size)) hT7.1
          have HDN := Lib.hid hdone
          clear hdone hF6 hS6 hT6 hT7 hb6 hb7 hb67 y0 y1 y2
          unfold TRow.val
          go_wp2
          exact bodyPost_ret (v := .tuple #[TRow.val row, .int .i64 0]) (by simp [results, Tryz.results18, go_sem, TRow.val, r0, r1, r2]) rfl ⟨row, rfl, HDN.out.1, HDN.out.2⟩
end Go.Proofs.YtnfkjodiielidaaGreatDoor

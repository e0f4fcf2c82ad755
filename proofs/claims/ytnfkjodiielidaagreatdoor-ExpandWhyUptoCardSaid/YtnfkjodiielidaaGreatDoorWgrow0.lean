/- How a tree grows: where the grower stands; the trees of several. -/
-- needs (*expand.grower).parts
/- How a tree grows: the trees of several. -/
-- needs (*expand.grower).expr
/- append(own, one), at a step of a region that draws its order. -/
import Derived.Test.YtnfkjodiielidaaGreatDoorWdelete
import Derived.Test.YtnfkjodiielidaaGreatDoorPgrow
import Derived.Test.YtnfkjodiielidaaGreatDoorWwhich
namespace Go.Proofs.YtnfkjodiielidaaGreatDoor
set_option linter.unusedVariables false
set_option linter.unusedSimpArgs false
open Go.RowKit

/-- A tree's own cells. -/
structure TRow where
  op : ByteArray
  us : SlV
  ps : SlV
def TRow.cells (r : TRow) : List Value := [.string r.op, .slice r.us.a r.us.n r.us.c, .slice r.ps.a r.ps.n r.ps.c]
def TRow.val (r : TRow) : Value := .agg #[.string r.op, .slice r.us.a r.us.n r.us.c, .slice r.ps.a r.ps.n r.ps.c]
theorem TRow.len (r : TRow) : r.cells.length = 3 := rfl
theorem TRow.one (r : TRow) : ∀ v ∈ r.cells, v.oneCell' = true := by intro v hv; simp [TRow.cells] at hv; rcases hv with rfl | rfl | rfl <;> rfl
theorem info_tree : (Tryz.prog.info? 32).map (fun i => (i.zero, i.size, i.bytes)) = some (some (.agg #[.string ⟨#[]⟩, .slice none 0 0, .slice none 0 0]), 3, 64) := by kernel_rfl
/-- A tree, by its own cells. -/
structure TreeAt (A : Nat → Prop) (W : World) (t : LTree) (r : TRow) : Prop where
  op : r.op = t.op
  us : RepD A W (.slice 3 (t.users.map LUser.d)) (.slice r.us.a r.us.n r.us.c)
  ps : RepD A W (.slice 3 (t.parts.map LTree.d)) (.slice r.ps.a r.ps.n r.ps.c)
theorem TreeAt.mono {A A' : Nat → Prop} {W : World} {t : LTree} {r : TRow} (h : TreeAt A W t r) (hA : ∀ b, A b → b < W.heap.size → A' b) : TreeAt A' W t r := ⟨h.op, h.us.mono hA, h.ps.mono hA⟩
theorem TreeAt.keep {A : Nat → Prop} {W W' : World} {t : LTree} {r : TRow} (h : TreeAt A W t r) (hw : ∀ b, A b → b < W.heap.size → W'.heap[b]? = W.heap[b]?) : TreeAt A W' t r := ⟨h.op, h.us.keep hw, h.ps.keep hw⟩
/-- Rows of the call's own stand for trees. -/
def RowsAt (A : Nat → Prop) (W : World) (ts : List LTree) (rows : List TRow) : Prop := rows.length = ts.length ∧ ∀ p, p ∈ ts.zip rows → TreeAt A W p.1 p.2
theorem RowsAt.nil (A : Nat → Prop) (W : World) : RowsAt A W [] [] := ⟨rfl, fun p hp => by cases hp⟩
theorem RowsAt.mono {A A' : Nat → Prop} {W : World} {ts : List LTree} {rows : List TRow} (h : RowsAt A W ts rows) (hA : ∀ b, A b → b < W.heap.size → A' b) : RowsAt A' W ts rows := ⟨h.1, fun p hp => (h.2 p hp).mono hA⟩
theorem RowsAt.keep {A : Nat → Prop} {W W' : World} {ts : List LTree} {rows : List TRow} (h : RowsAt A W ts rows) (hw : ∀ b, A b → b < W.heap.size → W'.heap[b]? = W.heap[b]?) : RowsAt A W' ts rows := ⟨h.1, fun p hp => (h.2 p hp).keep hw⟩
theorem RowsAt.snoc {A : Nat → Prop} {W : World} {ts : List LTree} {rows : List TRow} (h : RowsAt A W ts rows) {t : LTree} {r : TRow} (ht : TreeAt A W t r) : RowsAt A W (ts ++ [t]) (rows ++ [r]) := by
  refine ⟨by simp [h.1], fun p hp => ?_⟩
  rw [List.zip_append h.1.symm] at hp
  rcases List.mem_append.1 hp with hp | hp
  · exact h.2 p hp
  · obtain rfl : p = (t, r) := by simpa using hp
    exact ht
theorem RowsAt.rep {A : Nat → Prop} {W : World} {base e : Nat} {v : Value} {ts : List LTree} {rows : List TRow} (h : RowsAt A W ts rows) (ho : OwnL W base e 3 TRow.cells v rows) (hA : ∀ b, base ≤ b → v.ownBlock = some b → A b) (hl : rows.length ≤ 140737488355328) : RepD A W (.slice 3 (ts.map LTree.d)) v := by
  have hz : (ts.zip rows).map (·.2) = rows := List.map_snd_zip (by rw [h.1]; exact Nat.le_refl _)
  have hz1 : (ts.zip rows).map (·.1) = ts := List.map_fst_zip (by rw [h.1]; exact Nat.le_refl _)
  have ho2 : OwnL W base e 3 (fun p : LTree × TRow => p.2.cells) v (ts.zip rows) := by
    unfold OwnL at ho ⊢
    have e1 : (ts.zip rows).length = rows.length := by rw [List.length_zip, h.1, Nat.min_self]
    have e2 : (ts.zip rows).flatMap (fun p => p.2.cells) = rows.flatMap TRow.cells := by
      conv => rhs; rw [← hz]
      rw [List.flatMap_map]
    rw [e1, e2]
    exact ho
  have := ho2.reps (fun p => rfl) (fun p => p.1.d) (fun p hp j hj => by
    have hp2 := h.2 p hp
    rw [LTree.d_eq]
    match j, hj with
    | 0, _ => rw [← hp2.op]; exact .str _
    | 1, _ => exact hp2.us
    | 2, _ => exact hp2.ps) hA (by rw [List.length_zip]; omega)
  have e3 : (ts.zip rows).map (fun p => p.1.d) = ts.map LTree.d := by
    conv => rhs; rw [← hz1]
    rw [List.map_map]; rfl
  rwa [e3] at this

/-- Where a grower stands. -/
structure GrSt (W : World) (gb fb mb : Nat) (ul : Value) (l : List LKind) (S : List LTuple) (left : Int) : Prop where
  c0 : W.cell? ⟨gb, 0, none⟩ = some ul
  c1 : W.cell? ⟨gb, 1, none⟩ = some (.pointer (some ⟨fb, 0, none⟩))
  c2 : W.cell? ⟨gb, 2, none⟩ = some (.int .i64 left)
  fz : W.frozen? ⟨gb, 2, none⟩ = false
  facts : FactsAt W fb mb S
  kinds : RepD (fun b => b ≠ gb) W (.slice 2 (l.map LKind.d)) ul
  ne1 : gb ≠ fb
  ne2 : gb ≠ mb
section
variable {W W' : World} {gb fb mb : Nat} {ul : Value} {l : List LKind} {S : List LTuple} {left left' : Int}
theorem GrSt.lt (h : GrSt W gb fb mb ul l S left) : gb < W.heap.size := World.block_lt_of_cell? _ _ h.c0
theorem GrSt.next (h : GrSt W gb fb mb ul l S left) (hb : Below W.heap.size W W') : GrSt W' gb fb mb ul l S left :=
  ⟨(hb.cell (p := ⟨gb, 0, none⟩) h.lt).trans h.c0, (hb.cell (p := ⟨gb, 1, none⟩) h.lt).trans h.c1, (hb.cell (p := ⟨gb, 2, none⟩) h.lt).trans h.c2, (hb.frozen (p := ⟨gb, 2, none⟩) h.lt).trans h.fz, h.facts.below hb, h.kinds.old hb, h.ne1, h.ne2⟩
/-- One less is left. -/
theorem GrSt.less (h : GrSt W gb fb mb ul l S left) (n : Int) : GrSt (W.setCell ⟨gb, 2, none⟩ (.int .i64 n)) gb fb mb ul l S n ∧ Fr (fun k => k = gb) W (W.setCell ⟨gb, 2, none⟩ (.int .i64 n)) := by
  have hF : Fr (fun k => k = gb) W (W.setCell ⟨gb, 2, none⟩ (.int .i64 n)) := fr_setCells (g := gb) [.int .i64 n] 2 W
  obtain ⟨cs, t, fr, hh⟩ : ∃ cs t fr, W.heap[gb]? = some (.cells cs t fr) := by
    have := h.c0
    unfold World.cell? at this
    cases hx : W.heap[gb]? with
    | none => simp [hx] at this
    | some o =>
      cases o with
      | cells cs t fr => exact ⟨cs, t, fr, rfl⟩
      | _ => simp [hx] at this
  have hb' : (W.setCell ⟨gb, 2, none⟩ (.int .i64 n)).heap[gb]? = some (.cells (cs.setIfInBounds 2 (.int .i64 n)) t fr) := setCells_block gb t fr [.int .i64 n] 2 W cs hh
  have h0 := h.c0
  have h1 := h.c1
  have h2 := h.c2
  have h3 := h.fz
  simp only [World.cell?, hh] at h0 h1 h2
  simp only [World.frozen?, hh] at h3
  refine ⟨⟨?_, ?_, ?_, ?_, h.facts.fr hF (fun e => h.ne1 e.symm) (fun e => h.ne2 e.symm), h.kinds.fr hF (fun b hb => hb), h.ne1, h.ne2⟩, hF⟩
  · simp only [World.cell?, hb']
    rw [Array.getElem?_setIfInBounds_ne (by omega)]
    exact h0
  · simp only [World.cell?, hb']
    rw [Array.getElem?_setIfInBounds_ne (by omega)]
    exact h1
  · simp only [World.cell?, hb']
    have : 2 < cs.size := (Array.getElem?_eq_some_iff.1 h2).1
    simp [this]
  · simp only [World.frozen?, hb']
    exact h3
end
end Go.Proofs.YtnfkjodiielidaaGreatDoor
namespace Go.Proofs.YtnfkjodiielidaaGreatDoor
set_option linter.unusedVariables false
set_option linter.unusedSimpArgs false
open Go.RowKit

def OutT (A : Nat → Prop) (W : World) (t : LTree) (left left' : Int) (r : TRow) : Prop := ((t.natSize : Int) ≤ left ∧ left' = left - t.natSize ∧ TreeAt A W t r) ∨ (left < t.natSize ∧ left' = -1)
def sumT (ts : List LTree) : Nat := (ts.map LTree.natSize).sum
theorem sumT_snoc (ts : List LTree) (t : LTree) : sumT (ts ++ [t]) = sumT ts + t.natSize := by simp [sumT]
def OutL (A : Nat → Prop) (W : World) (ts : List LTree) (left left' : Int) (rs : List TRow) : Prop := ((sumT ts : Int) ≤ left ∧ left' = left - sumT ts ∧ RowsAt A W ts rs) ∨ (left < sumT ts ∧ left' = -1)
/-- What the grower makes of a relation to an object, to a depth. -/
def Grown (l : List LKind) (S : List LTuple) (gb fb mb : Nat) (ul : Value) (d : Nat) : Prop :=
  ∀ (o : LUser) (W : World) (left : Int), 0 ≤ left → left ≤ 1000000000000 → GrSt W gb fb mb ul l S left →
    Calls Tryz.prog 47 #[.pointer (some ⟨gb, 0, none⟩), .agg #[.string o.kind, .string o.id, .string o.rel], .int .i64 d] W fun e W' => ∃ row left', e = .returned row.val ∧ Fr (fun k => k = gb) W W' ∧ GrSt W' gb fb mb ul l S left' ∧ OutT (fun b => W.heap.size ≤ b) W' (growT l S d o) left left' row
theorem Fr.next {M M' : Nat → Prop} {a b c : World} (h : Fr M a b) (k : Fr M' b c) (hM : ∀ i, i < a.heap.size → M' i → M i) : Fr M a c :=
  ⟨k.os.trans h.os, k.tape.trans h.tape, k.output.trans h.output, Nat.le_trans h.size k.size, fun i hi hn => (k.block i (Nat.lt_of_lt_of_le hi h.size) (fun hm => hn (hM i hi hm))).trans (h.block i hi hn)⟩
/-- The grower, moved on beside its own. -/
theorem GrSt.move {W0 W W' : World} {gb fb mb : Nat} {ul : Value} {l : List LKind} {S : List LTuple} {left left0 : Int} {M : Nat → Prop} (h0 : GrSt W0 gb fb mb ul l S left0) (h : GrSt W gb fb mb ul l S left) (hF : Fr M W W') (hM : ¬ M gb) (hF0 : Fr (fun k => k = gb) W0 W') : GrSt W' gb fb mb ul l S left :=
  ⟨(hF.cell h.lt hM).trans h.c0, (hF.cell h.lt hM).trans h.c1, (hF.cell h.lt hM).trans h.c2, (hF.frozen h.lt hM).trans h.fz, h0.facts.fr hF0 (fun e => h0.ne1 e.symm) (fun e => h0.ne2 e.symm), h0.kinds.fr hF0 (fun b hb => hb), h0.ne1, h0.ne2⟩
/-- One more tree, appended to rows of the call's own. -/
theorem out_snoc {B : Nat} {Wa W2 W4 : World} {v v1 : Value} {rows : List TRow} {row : TRow} {ts : List LTree} {t : LTree} {left lk l2 : Int} {gb : Nat} (hlk : 0 ≤ lk)
    (hown : ∀ k, v.ownBlock = some k → B ≤ k ∧ k < Wa.heap.size) (hgb : gb < B) (hW : B ≤ Wa.heap.size)
    (hOut : OutL (fun b => B ≤ b ∧ v.ownBlock ≠ some b) Wa ts left lk rows) (hF3 : Fr (fun k => k = gb) Wa W2) (hT : OutT (fun b => Wa.heap.size ≤ b) W2 t lk l2 row)
    (hF4 : Fr (fun k => v.ownBlock = some k) W2 W4) (hv1 : ∀ k, v1.ownBlock = some k → v.ownBlock = some k ∨ W2.heap.size ≤ k) :
    OutL (fun b => B ≤ b ∧ v1.ownBlock ≠ some b) W4 (ts ++ [t]) left l2 (rows ++ [row]) := by
  have hn1 := natSize_pos t
  rcases hOut with ⟨h1, h2, hR⟩ | ⟨h1, h2⟩
  · rcases hT with ⟨g1, g2, hT⟩ | ⟨g1, g2⟩
    · left
      refine ⟨by rw [sumT_snoc]; omega, by rw [sumT_snoc]; omega, RowsAt.snoc ?_ ?_⟩
      · have hR2 : RowsAt (fun b => (B ≤ b ∧ v.ownBlock ≠ some b) ∧ b < Wa.heap.size) Wa ts rows := hR.mono fun b hb hlt => ⟨hb, hlt⟩
        have hR3 := hR2.keep (W' := W4) fun b hb hlt => (hF4.block b (Nat.lt_of_lt_of_le hlt hF3.size) hb.1.2).trans (hF3.block b hlt (fun e => by have := hb.1.1; omega))
        refine hR3.mono fun b hb _ => ⟨hb.1.1, fun e => ?_⟩
        rcases hv1 b e with e | e
        · exact hb.1.2 e
        · have := hF3.size; have := hb.2; omega
      · have hT2 : TreeAt (fun b => Wa.heap.size ≤ b ∧ b < W2.heap.size) W2 t row := hT.mono fun b hb hlt => ⟨hb, hlt⟩
        have hT3 := hT2.keep (W' := W4) fun b hb hlt => hF4.block b hlt fun e => by have := (hown b e).2; omega
        refine hT3.mono fun b hb _ => ⟨Nat.le_trans hW hb.1, fun e => ?_⟩
        rcases hv1 b e with e | e
        · have := (hown b e).2; omega
        · omega
    · right
      exact ⟨by rw [sumT_snoc]; omega, g2⟩
  · omega
set_option maxRecDepth 100000 in
set_option maxHeartbeats 8000000 in
theorem grow_parts {l : List LKind} {S : List LTuple} {gb fb mb : Nat} {ul : Value} {d : Nat} (hg : Grown l S gb fb mb ul d) {W : World} {left : Int} (h0 : 0 ≤ left) (hle : left ≤ 1000000000000) (hst : GrSt W gb fb mb ul l S left) {os : List LUser} {v : Value} (hv : RepD (fun b => b ≠ gb) W (.slice 3 (os.map LUser.d)) v) (hl : os.length ≤ 1000000) :
    Calls Tryz.prog 134 #[.pointer (some ⟨gb, 0, none⟩), v, .int .i64 d] W fun e W' => ∃ v' rows left', e = .returned v' ∧ Fr (fun k => k = gb) W W' ∧ GrSt W' gb fb mb ul l S left' ∧ OwnL W' W.heap.size 32 3 TRow.cells v' rows ∧ rows.length ≤ os.length ∧
      OutL (fun b => W.heap.size ≤ b ∧ v'.ownBlock ≠ some b) W' (os.map (growT l S d)) left left' rows := by
  obtain ⟨a, c, hvf, _, _, _⟩ := hv.users
  subst hvf
  have HG := Lib.hid hg; have HV := Lib.hid hv
  have hz0 : OutL (fun b => W.heap.size ≤ b ∧ (Value.slice none 0 0).ownBlock ≠ some b) W ((os.take 0).map (growT l S d)) left left [] := .inl ⟨by simp [sumT]; omega, by simp [sumT], RowsAt.nil _ _⟩
  have HZ0 := Lib.hid hz0; have HST := Lib.hid hst
  clear hg hv hz0 hst
  go_enter Tryz.func134, Tryz.ntmps134
  go_wp2
  go_loopw [7, 9, 12] (fun v' _ i wr => ∃ (k : Nat) (rows : List TRow) (lk : Int), k ≤ os.length ∧ i = .int .i64 k ∧ rows.length ≤ k ∧ Aside (Fr (fun k => k = gb) W wr) ∧ Aside (GrSt wr gb fb mb ul l S lk) ∧ Aside (OwnL wr W.heap.size 32 3 TRow.cells v' rows) ∧
      Aside (OutL (fun b => W.heap.size ≤ b ∧ v'.ownBlock ≠ some b) wr ((os.take k).map (growT l S d)) left lk rows)) (fun _ _ i _ => os.length - (intOf i).toNat)
  case atStart => exact ⟨0, [], left, by omega, rfl, by simp, ⟨Fr.refl _ _⟩, ⟨HST.out⟩, ⟨OwnL.nil _ _ _ _ _⟩, ⟨HZ0.out⟩⟩
  case round =>
    obtain ⟨k, rows, lk, hk, rfl, hrl, hF, hS, hO, hOut⟩ := hrel
    have hsz := hF.out.size
    have hlkle : lk ≤ left := by
      rcases hOut.out with ⟨q1, q2, _⟩ | ⟨q1, q2⟩
      · have : (0 : Int) ≤ (sumT ((os.take k).map (growT l S d)) : Int) := by omega
        omega
      · omega
    by_cases hlt : k < os.length
    · obtain ⟨a', c', hv', _, _, hc⟩ := (HV.out.fr hF.out (fun b hb => hb)).users
      injection hv' with e1 e2 e3
      obtain ⟨b, off, hab, _, e0, e1', e2'⟩ := hc k hlt
      rw [hab] at e1
      subst e1 e3
      have hstep : (os.take (k + 1)).map (growT l S d) = (os.take k).map (growT l S d) ++ [growT l S d os[k]] := by rw [List.take_succ_eq_append_getElem hlt, List.map_append]; rfl
      have hB0 : Below wr.heap.size wr (wr.alloc (.cells #[.string os[k].kind, .string os[k].id, .string os[k].rel] 25)) := (Below.refl _ _).alloc (Nat.le_refl _) _
      have hcall := fun hlk => HG.out os[k] (wr.alloc (.cells #[.string os[k].kind, .string os[k].id, .string os[k].rel] 25)) lk hlk (by omega) (hS.out.next hB0)
      have hgl := hS.out.lt
      have g2 := hS.out.c2
      have HST1 := Lib.hid hstep
      have HB0 := Lib.hid hB0
      have hos1 : 1 ≤ (growT l S d os[k]).natSize := natSize_pos _
      generalize growT l S d os[k] = t at *
      generalize (os.take k).map (growT l S d) = ts at *
      generalize os[k] = o at *
      have HC := Lib.hid hcall
      have HOut := Lib.hid hOut.out; have HO := Lib.hid hO.out; have HS := Lib.hid hS.out
      clear hcall hstep hB0 hOut hO hS hc hab e2
      by_cases hlk : 0 ≤ lk
      · have hcl := HC.out hlk
        have HCL := Lib.hid hcl
        have hnl : ¬ lk < 0 := by omega
        clear hcl HC
        go_wp2_with fail
        refine HCL.out.mono ?_
        rintro e w2 ⟨row, l2, rfl, hF2, hS2, hT2⟩
        have hF3 : Fr (fun k => k = gb) wr w2 := (Fr.of_below HB0.out).trans hF2
        have hgW : gb < W.heap.size := HST.out.lt
        have hO2 : OwnL w2 W.heap.size 32 3 TRow.cells u7 rows := HO.out.fr hF3 (fun k hk e => by
          have := (OwnL.block HO.out k hk).1
          omega)
        have hT3 : OutT (fun b => wr.heap.size ≤ b) w2 t lk l2 row := by
          rcases hT2 with ⟨g1, g2, g3⟩ | h
          · exact .inl ⟨g1, g2, g3.mono fun b hb _ => by simp at hb; omega⟩
          · exact .inr h
        have hsz2 : W.heap.size ≤ w2.heap.size := Nat.le_trans hsz hF3.size
        have HF3 := Lib.hid hF3; have HO2 := Lib.hid hO2; have HT3 := Lib.hid hT3; have HS2 := Lib.hid hS2
        clear hF2 hF3 hO2 hT2 hT3 hS2
        unfold TRow.val
        go_wp2_with (at_builtin; refine wpList_app W.heap.size rfl _ _ _ 32 _ 3 64 rfl Tryz.underlying30 info_tree rfl (by omega) (by omega) TRow.cells TRow.len TRow.one u7 rows row rfl rfl rfl HO2.out hsz2 (by omega) ?_; intro v1 w4 hO4 hB4 hF4; have HO4 := Lib.hid hO4; have HF4 := Lib.hid hF4; clear hO4 hB4 hF4)
        have hFW : Fr (fun k => k = gb) W w4 := (hF.out.trans HF3.out).next HF4.out.1 (fun i hi hm => by have := (OwnL.block HO.out i hm).1; omega)
        have hSW := HST.out.move HS2.out HF4.out.1 (fun hm => by have := (OwnL.block HO.out gb hm).1; omega) hFW
        have hOW := out_snoc hlk (fun k hk => OwnL.block HO.out k hk) hgW hsz HOut.out HF3.out HT3.out HF4.out.1 HF4.out.2
        have HOW := Lib.hid hOW
        clear hOW
        first
          | exact ⟨⟨k + 1, rows ++ [row], l2, by omega, by go_num, by simp; omega, ⟨hFW⟩, ⟨hSW⟩, ⟨HO4.out⟩, ⟨by rw [HST1.out]; exact HOW.out⟩⟩, by simp [intOf] <;> omega⟩
          | (go_roundw
             case rel => exact ⟨k + 1, rows ++ [row], l2, by omega, by go_num, by simp; omega, ⟨hFW⟩, ⟨hSW⟩, ⟨HO4.out⟩, ⟨by rw [HST1.out]; exact HOW.out⟩⟩
             case measure => simp [intOf]; omega)
      · have hnl : lk < 0 := by omega
        have hFW : Fr (fun k => k = gb) W (wr.alloc (.cells #[.string o.kind, .string o.id, .string o.rel] 25)) := hF.out.trans (Fr.of_below HB0.out)
        have hSW := HS.out.next HB0.out
        have hO4 := HO.out.below HB0.out
        have hOW : OutL (fun b => W.heap.size ≤ b ∧ u7.ownBlock ≠ some b) (wr.alloc (.cells #[.string o.kind, .string o.id, .string o.rel] 25)) (ts ++ [t]) left lk rows := by
          rcases HOut.out with ⟨h1, h2, _⟩ | ⟨h1, h2⟩
          · omega
          · exact .inr ⟨by rw [sumT_snoc]; omega, h2⟩
        have HOW := Lib.hid hOW; have HO4 := Lib.hid hO4; have HFW := Lib.hid hFW; have HSW := Lib.hid hSW
        clear hOW hO4 hFW hSW HC
        go_wp2
        first
          | exact ⟨⟨k + 1, rows, lk, by omega, by go_num, by omega, ⟨HFW.out⟩, ⟨HSW.out⟩, ⟨HO4.out⟩, ⟨by rw [HST1.out]; exact HOW.out⟩⟩, by simp [intOf] <;> omega⟩
          | (go_roundw
             case rel => exact ⟨k + 1, rows, lk, by omega, by go_num, by omega, ⟨HFW.out⟩, ⟨HSW.out⟩, ⟨HO4.out⟩, ⟨by rw [HST1.out]; exact HOW.out⟩⟩
             case measure => simp [intOf]; omega)
    · have hkn : os.take k = os := List.take_of_length_le (by omega)
      have hOut2 := hOut.out
      rw [hkn] at hOut2
      have HOut := Lib.hid hOut2; have HO := Lib.hid hO.out; have HS := Lib.hid hS.out; have HF := Lib.hid hF.out
      clear hOut hOut2 hO hS hF hkn
      go_wp2
      go_ret
      exact ⟨_, rows, lk, rfl, HF.out, HS.out, HO.out, by omega, HOut.out⟩
end Go.Proofs.YtnfkjodiielidaaGreatDoor
namespace Go.Proofs.YtnfkjodiielidaaGreatDoor
set_option linter.unusedVariables false
set_option linter.unusedSimpArgs false
open Go.RowKit

section
variable {P : Program} {ops : Array Oper} {o : Oper} {a : Act} {K : Act → World → Prop} {Q : Exit → Act → World → Prop} {E : Prop}
theorem step_app1 {α : Type} (base : Nat) (hgd : o.guard = none) (s x : Operand) (t e : TypeId) (z : Value) (size bytes : Nat)
    (ho : o.op = .call { callee := .builtin .append, args := #[s, x], argTypes := #[t, t] }) (ht : P.underlying t = some (.slice e))
    (hinfo : (P.info? e).map (fun i => (i.zero, i.size, i.bytes)) = some (some z, size, bytes)) (hzs : z.cells.size = size) (hsz : 0 < size) (hby : 0 < bytes)
    (enc : α → List Value) (henc : ∀ x, (enc x).length = size) (h1 : ∀ x, ∀ v ∈ enc x, v.oneCell' = true) {W : World} (v : Value) (xs : List α) (y : α) (hs : a.eval s = v) {N : Nat} (hx : a.eval x = .slice (some ⟨N, 0, none⟩) 1 1) (hN : W.heap[N]? = some (.cells (enc y).toArray e (0, 0)))
    (HO : OwnL W base e size enc v xs) (hbase : base ≤ W.heap.size) (hl : (xs.length + 1) * bytes ≤ 140737488355328)
    (h : ∀ a1 c1 w1, OwnL w1 base e size enc (.slice a1 (xs.length + 1) c1) (xs ++ [y]) → (Fr (fun k => v.ownBlock = some k) W w1 ∧ ∀ k, (Value.slice a1 (xs.length + 1) c1).ownBlock = some k → v.ownBlock = some k ∨ W.heap.size ≤ k) → K (a.put o.dst (.slice a1 (xs.length + 1) c1)) w1) :
    if Region.wanted o (yielded ops a.tmps) = true then Oper.wp P o a W K Q else E := by
  have hw : Region.wanted o (yielded ops a.tmps) = true := by simp [Region.wanted, hgd]
  rw [if_pos hw]
  obtain ⟨i0, hi, hzz⟩ := Option.map_eq_some_iff.1 hinfo
  simp only [Prod.mk.injEq] at hzz
  obtain ⟨hz0, hz1, hz2⟩ := hzz
  have hlen : xs.length + 1 ≤ 140737488355328 := Nat.le_trans (Nat.le_mul_of_pos_right _ hby) hl
  obtain ⟨v1, w1, hr, hown, hg, _, hat⟩ := run_append_own_at (P := P) W base t o.type e i0 z size bytes ht hi hz0 hz1 hz2 hzs hsz v xs.length (xs.flatMap enc) HO ⟨N, 0, none⟩ 1 1 (enc y) (by rw [henc]; omega)
    (World.news_of_block (cs := (enc y).toArray) (t := e) (fr := (0, 0)) hN) (h1 y) (by simp only [maxLen]; omega) hl hbase
  have hO1 : OwnL w1 base e size enc v1 (xs ++ [y]) := by unfold OwnL; simpa using hown
  obtain ⟨a1, c1, rfl, _⟩ := hO1.form
  have hsl : (xs ++ [y]).length = xs.length + 1 := by simp
  unfold Oper.wp execOp
  simp only [ho, resolve, invoke, builtin, Sem.run_bind, Sem.run_pure, Result.andThen_ok, List.map_toArray, List.map_cons, List.map_nil, hs, hx, hr]
  rw [hsl] at hO1 hat ⊢
  refine h a1 c1 w1 hO1 ⟨⟨hg.os, hg.tape, hg.output, hg.size, fun k hk hkn => hg.block k hk (fun e => hkn e.symm)⟩, fun k hk => ?_⟩
  rcases hat with hat | hat
  · exact .inl (hat ▸ hk)
  · rw [hat] at hk
    simp at hk
    exact .inr (by omega)
end
end Go.Proofs.YtnfkjodiielidaaGreatDoor

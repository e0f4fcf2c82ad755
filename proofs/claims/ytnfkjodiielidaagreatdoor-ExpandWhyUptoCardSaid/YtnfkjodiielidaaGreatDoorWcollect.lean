/- slices.Collect(maps.Keys(m)) at a set of users: its users, in some order, in a slice of the call's own. -/
import Derived.Test.YtnfkjodiielidaaGreatDoorMapdel
import Derived.Test.YtnfkjodiielidaaGreatDoorWclone
import Derived.Shelf.SlIter.Collect
namespace Go.Proofs.YtnfkjodiielidaaGreatDoor
set_option linter.unusedVariables false
set_option linter.unusedSimpArgs false
open Go.RowKit Go.Shelf

def apAssignU : Code := .region 2 #[{ dst := some 5, op := .alloc 25, type := 0, pos := "iter.go:51", after := #[], guard := none }, { dst := none, op := .store 25 (.tmp 5) (.tmp 7), type := 0, pos := "iter.go:51", after := #[{ on := 0, ground := .data }, { on := 0, ground := .phase }], guard := none }] false
def apBodyU : Code := .block 1 (.region 3 #[{ dst := some 8, op := .load 29 (.tmp 2), type := 29, pos := "iter.go:52", after := #[], guard := none }, { dst := some 9, op := .load 25 (.tmp 5), type := 25, pos := "iter.go:52", after := #[], guard := none }, { dst := some 10, op := .buildSlice 29 1 #[(0, .tmp 9)], type := 29, pos := "iter.go:52", after := #[{ on := 1, ground := .data }], guard := none }, { dst := some 11, op := .call { callee := .builtin .append, args := #[.tmp 8, .tmp 10], argTypes := #[29, 29] }, type := 29, pos := "iter.go:52", after := #[{ on := 0, ground := .data }, { on := 2, ground := .data }], guard := none }, { dst := none, op := .store 29 (.tmp 2) (.tmp 11), type := 0, pos := "iter.go:52", after := #[{ on := 3, ground := .data }, { on := 3, ground := .chain }, { on := 0, ground := .phase }, { on := 1, ground := .phase }, { on := 2, ground := .phase }, { on := 3, ground := .phase }], guard := none }] false)
def apRecU (fn : FuncId) (sv : Value) (Bs D : Nat) (st : LoopState) (pend : Option Code) : Loop :=
  { state := st, pending := pend, fn, tmps := #[.slice none 0 0, sv, .pointer (some ⟨Bs, 0, none⟩), undef, .slice none 0 0, undef, sv, undef, undef, undef, undef, undef, undef], params := #[7], assign := apAssignU, body := apBodyU, defers := D }
theorem IterAt.of_walks {α β : Type} {enc : α → Value} {ve : β → Value} {w w' : World} {ib mb : Nat} {S left : List (α × β)} (h : IterAt w ib mb enc ve S left) (hk : KeepsWalks w w') : IterAt w' ib mb enc ve S left := by
  have h0 := h
  obtain ⟨es, clock, since, seen, _, hb, _, hi, _⟩ := h0
  exact h.kept ((hk.same ib _ hi rfl).trans hi.symm) ((hk.same mb _ hb rfl).trans hb.symm)
theorem IterAt.iter_walk {α β : Type} {enc : α → Value} {ve : β → Value} {w : World} {ib mb : Nat} {S left : List (α × β)} (h : IterAt w ib mb enc ve S left) : ∃ o : Obj, w.heap[ib]? = some o ∧ o.isWalk = true := by
  obtain ⟨es, clock, since, seen, _, hb, _, hi, _⟩ := h
  exact ⟨_, hi, rfl⟩

section
variable {α β : Type} {enc : α → Value} {ve : β → Value} {F : Fence} {n : Nat} {P : Program} {ops : Array Oper} {rest : List Oper} {o : Oper} {a : Act} {Q : Exit → Act → World → Prop} {w : World}
theorem wpListIn_rangeU (hg : o.guard = none) (m : Operand) (t : TypeId) (hop : o.op = Op.range t m) {kt et : TypeId} (ht : P.underlying t = some (.map kt et)) {mb : Nat} {S : List (α × β)} (hm : a.eval m = .map (some mb)) (h : MapAt w mb enc ve S)
    (hK : ∀ x, IterAt (w.alloc x) w.heap.size mb enc ve S S → wpListIn F n P ops Q rest (a.put o.dst (.pointer (some ⟨w.heap.size, 0, none⟩))) (w.alloc x)) : wpListIn F n P ops Q (o :: rest) a w := by
  refine wpListIn_plain hg fun K' hK' => ?_
  obtain ⟨x, hrun, hit⟩ := IterAt.start (P := P) ht h
  unfold Oper.wpIn
  refine ⟨by simp [Oper.about, hop], ?_⟩
  rw [Oper.semAt_plain F _ _ (by rw [hop]; intro c hc'; cases hc')]
  simp [execOp, hop, hm, hrun, Result.andThen]
  exact hK' _ _ (hK x hit)
theorem wpListIn_nextU (hg : o.guard = none) (it : Operand) (hop : o.op = Op.next it false) {ib mb : Nat} {S left : List (α × β)} (hit : a.eval it = .pointer (some ⟨ib, 0, none⟩)) (h : IterAt w ib mb enc ve S left)
    (hDone : left = [] → wpListIn F n P ops Q rest (a.put o.dst (.tuple #[.bool false])) w)
    (hMore : ∀ p left' w', left.Perm (p :: left') → IterAt w' ib mb enc ve S left' → Fr (fun k => k = ib) w w' → w'.heap.size = w.heap.size → (Instr.entry (.pointer (some ⟨ib, 0, none⟩))).run P w' = .ok (.tuple #[enc p.1, ve p.2]) w' →
      wpListIn F n P ops Q rest (a.put o.dst (.tuple #[.bool true, enc p.1, ve p.2])) w') : wpListIn F n P ops Q (o :: rest) a w := by
  refine wpListIn_plain hg fun K' hK' => ?_
  unfold Oper.wpIn
  refine ⟨by simp [Oper.about, hop], ?_⟩
  rw [Oper.semAt_plain F _ _ (by rw [hop]; intro c hc'; cases hc')]
  rcases h.next (P := P) with ⟨hn0, hnx⟩ | ⟨p, left', w2, hpm, hnx, hit2, hfr, hsz, hen⟩
  · simp [execOp, hop, hit, hnx, Result.andThen]
    exact hK' _ _ (hDone hn0)
  · simp [execOp, hop, hit, hnx, Result.andThen]
    exact hK' _ _ (hMore p left' w2 hpm hit2 hfr hsz hen)
end

set_option maxRecDepth 100000 in
set_option maxHeartbeats 4000000 in
theorem keysU_in (F : Fence) (n : Nat) (h10 : F.fn 101) (hro : F.round = none) (hn : 1 ≤ n) (l Bm mb : Nat) (S : List LUser) (J : List LUser → World → Prop)
    (hY : ∀ pre x W, J pre W → pre.length < S.length → YieldAt F (n - 1) Tryz.prog l #[x.val] W fun e W' => e = .returned (.bool true) ∧ J (pre ++ [x]) W' ∧ KeepsWalks W W')
    (W : World) (hJ : AbidesFrom W.heap.size J) (hm : W.cell? ⟨Bm, 0, none⟩ = some (.map (some mb))) (hown : USetAt W mb S) (h0 : J [] W) :
    CallsIn F n Tryz.prog 101 #[.func (.yield l) #[] #[], .pointer (some ⟨Bm, 0, none⟩)] W fun e W' => (∃ v, e = .returned v) ∧ ∃ ss : List LUser, ss.Perm S ∧ J ss W' := by
  refine callsIn_of_wp Tryz.func101 rfl h10 ?_ hro
  simp only [Tryz.ntmps101, List.size_toArray, List.length_cons, List.length_nil, Nat.reduceAdd, Nat.reduceSub, Array.replicate_succ, Array.replicate_zero, List.push_toArray, List.append_toArray, List.nil_append, List.cons_append]
  have HY := Lib.hid hY; have HJ := Lib.hid hJ; have HOW := Lib.hid hown; have H0 := Lib.hid h0
  clear hown hY hJ h0
  gi_wp2_with (first
    | (gi_at_range; refine wpListIn_rangeU (enc := LUser.val) (ve := oneV) rfl _ 105 rfl Tryz.underlying105 rfl HOW.out ?_; intro o hit; have HI := Lib.hid hit; have HJ0 := Lib.hid (HJ.out [] W (W.alloc o) none H0.out (World.grownBy_alloc W _ _) (fun r e => by cases e)); clear hit HOW H0)
    | gi_in)
  go_frame
  gi_loopw [3] (fun _ wr => ∃ (ss : List LUser) (left : List (LUser × Unit)), Aside (IterAt wr W.heap.size mb LUser.val oneV (unitL S) left) ∧ Aside ((ss ++ left.map (·.1)).Perm S) ∧ Aside (J ss wr))
    (fun _ wr => wr.rangeLeft mb W.heap.size)
  case atStart => exact ⟨[], _, ⟨HI.out⟩, ⟨by simp [unitL_fst]⟩, ⟨HJ0.out⟩⟩
  case round =>
    obtain ⟨ss, left, hI, hP, hJs⟩ := hrel
    gi_wp2_with (first
      | (gi_at_next; refine wpListIn_nextU (enc := LUser.val) (ve := oneV) rfl _ rfl rfl hI.out ?_ ?_)
      | gi_in)
    · intro hn0
      have hfin : ss.Perm S := by have := hP.out; rw [hn0] at this; simpa using this
      have HF := Lib.hid hfin
      clear hfin hP hI
      gi_wp2
      go_end0
      exact ⟨⟨_, rfl⟩, ss, HF.out, hJs.out⟩
    · intro x u0 left' w2 hpm hit2 hfr hsz hen
      have hg : wr.grownBy w2 (some W.heap.size) := ⟨hfr.os, hfr.tape, hfr.output, hfr.size, fun k hk hne => hfr.block k hk fun e => hne (by rw [e])⟩
      have hJ2 : J ss w2 := HJ.out ss wr w2 (some W.heap.size) hJs.out hg (fun r e => by cases e; exact ⟨Nat.le_refl _, hI.out.iter_walk⟩)
      have hlen := hP.out.length_eq
      have hlen2 := hpm.length_eq
      simp only [List.length_append, List.length_map, List.length_cons] at hlen hlen2
      have hba : Below w2.heap.size w2 (w2.alloc (.cells #[.string x.kind, .string x.id, .string x.rel] 25)) := (Below.refl _ w2).alloc (Nat.le_refl _) _
      have hJ3 := HJ.out ss w2 (w2.alloc (.cells #[.string x.kind, .string x.id, .string x.rel] 25)) none hJ2 (World.grownBy_alloc _ _ _) (fun r e => by cases e)
      obtain ⟨fn, tmps, assign, body, hy, hR⟩ := HY.out ss x _ hJ3 (by omega)
      have hMr := hI.out.left_eq
      have hP2 : ((ss ++ [x]) ++ left'.map (·.1)).Perm S := by
        have h1 := hpm.map (·.1)
        simp only [List.map_cons] at h1
        rw [List.append_assoc]
        exact (h1.symm.append_left ss).trans hP.out
      have HI2 := Lib.hid (hit2.below hba); have HP2 := Lib.hid hP2; have HR := Lib.hid hR; have HM := Lib.hid hMr
      clear hit2 hP2 hR hMr hI hP hJ2 hJ3 hba hJs hpm hfr hg hsz HJ0 HI
      unfold LUser.val at hen hy
      unfold LUser.val
      gi_wp2
      refine HR.out.mono ?_
      rintro e W3 ⟨rfl, hJ3, hk3⟩
      gi_wp2
      have hI3 := HI2.out.of_walks hk3
      go_roundw
      case rel => exact ⟨ss ++ [x], left', ⟨hI3⟩, ⟨HP2.out⟩, ⟨hJ3⟩⟩
      case measure => rw [hI3.left_eq, HM.out]; omega

theorem keysU_gives (F : Fence) (n : Nat) (h10 : F.fn 101) (hro : F.round = none) (hn : 1 ≤ n) (Bm mb : Nat) (S : List LUser) (w : World) (hBm : Bm < w.heap.size)
    (hm : w.cell? ⟨Bm, 0, none⟩ = some (.map (some mb))) (hown : USetAt w mb S) :
    SeqGives F n Tryz.prog 101 #[.pointer (some ⟨Bm, 0, none⟩)] LUser.val (fun ss => ss.Perm S) S.length w := fun l J W hW hJ hY h0 =>
  keysU_in F n h10 hro hn l Bm mb S J hY W hJ ((hW.cell (p := ⟨Bm, 0, none⟩) hBm).trans hm) (MapAt.below hown hW) h0

structure ApU (w0 : World) (fn : FuncId) (sv : Value) (Bs l D : Nat) (ss : List LUser) (W : World) : Prop where
  box : ∃ v, W.heap[Bs]? = some (.cells #[v] 29 (0, 0)) ∧ W.ownsRow w0.heap.size 25 3 v ss.length (ss.flatMap LUser.cells)
  L : W.heap[l]? = some (.loop (apRecU fn sv Bs D .ready none))
  K : W.heap[D]? = some (.deferred (some []))
  below : Below w0.heap.size w0 W
theorem apU_abides (w0 : World) (fn : FuncId) (sv : Value) (Bs l D B : Nat) (hB : w0.heap.size ≤ B) : AbidesFrom B (ApU w0 fn sv Bs l D) := fun s W W' row h hg hrow => by
  have hrow' : ∀ r, row = some r → ∃ o : Obj, W.heap[r]? = some o ∧ o.isWalk = true := fun r e => (hrow r e).2
  obtain ⟨v, hv, hr⟩ := h.box
  exact ⟨⟨v, (grownBy_keeps hg hrow' hv rfl).trans hv, ownsRow_abides_a hr hg hrow'⟩, (grownBy_keeps hg hrow' h.L rfl).trans h.L, (grownBy_keeps hg hrow' h.K rfl).trans h.K,
    h.below.grown hg h.below.size (fun k e => Nat.le_trans hB (hrow k e).1)⟩
theorem cell_user_new (w : World) (x : LUser) : ∀ j u, x.cells[j]? = some u → (w.alloc (.cells #[.string x.kind, .string x.id, .string x.rel] 25)).cell? ((⟨w.heap.size, 0, none⟩ : Addr).add j) = some u :=
  World.news_of_block (cs := x.cells.toArray) (t := 25) (fr := (0, 0)) (heap_alloc_at rfl)

set_option maxRecDepth 100000 in
set_option maxHeartbeats 4000000 in
theorem apYieldU (F : Fence) (m : Nat) (w0 : World) (fn : FuncId) (hfn : F.fn fn) (sv : Value) (Bs l D : Nat) (hBl : Bs ≠ l) (hDl : D ≠ l) (hDB : D ≠ Bs) (h0B : w0.heap.size ≤ Bs) (h0l : w0.heap.size ≤ l)
    (N : Nat) (hN : N ≤ 1000000000000) (ss : List LUser) (x : LUser) (W : World) (h : ApU w0 fn sv Bs l D ss W) (hlen : ss.length < N) :
    YieldAt F m Tryz.prog l #[x.val] W fun e W' => e = .returned (.bool true) ∧ ApU w0 fn sv Bs l D (ss ++ [x]) W' ∧ KeepsWalks W W' := by
  have hne : (29 : Nat) ≠ 25 := by decide
  have u24 := run_underlying Tryz.underlying29
  obtain ⟨i0, hi, hz0, hz1, hz2⟩ := info_parts info_user
  obtain ⟨v, hv, hrow⟩ := h.box
  unfold LUser.val
  refine ⟨fn, #[.slice none 0 0, sv, .pointer (some ⟨Bs, 0, none⟩), undef, .slice none 0 0, undef, sv, .agg #[.string x.kind, .string x.id, .string x.rel], undef, undef, undef, undef, undef], apAssignU, apBodyU, by simpa [apRecU, LUser.val] using run_yield (P := Tryz.prog) (args := #[x.val]) h.L rfl, roundIn_of_wpIn hfn ?_⟩
  have hl : l < W.heap.size := (Array.getElem?_eq_some_iff.1 h.L).1
  have hBl0 : Bs < W.heap.size := (Array.getElem?_eq_some_iff.1 hv).1
  have hDl0 : D < W.heap.size := (Array.getElem?_eq_some_iff.1 h.K).1
  have hab : Below W.heap.size W (W.alloc (.cells #[.string x.kind, .string x.id, .string x.rel] 25)) := (Below.refl _ W).alloc (Nat.le_refl _) _
  have hbr := run_beginRound (P := Tryz.prog) ((hab.block l hl).trans h.L) rfl
  unfold apAssignU
  gi_wp2_with gi_round_op_a
  obtain ⟨W2, hW2⟩ : ∃ W2, (W.alloc (.cells #[.string x.kind, .string x.id, .string x.rel] 25)).putObj l (.loop { apRecU fn sv Bs D .ready none with state := .busy }) = W2 := ⟨_, rfl⟩
  rw [hW2] at hbr
  refine ⟨W2, hbr, ?_⟩
  have hg2 : (W.alloc (.cells #[.string x.kind, .string x.id, .string x.rel] 25)).grownBy W2 (some l) := by rw [← hW2]; exact grownBy_putObj_a _ _ _
  have hkb : KeepsWalks W W2 := by rw [← hW2]; exact (KeepsWalks.alloc _ _).trans (KeepsWalks.putObj _ ((hab.block l hl).trans h.L) rfl)
  have hszb : W2.heap.size = W.heap.size + 1 := by rw [← hW2]; simp
  have hvb : W2.heap[Bs]? = some (.cells #[v] 29 (0, 0)) := by rw [← hW2]; exact (World.putObj_heap_other hBl).trans ((hab.block _ hBl0).trans hv)
  have hKb : W2.heap[D]? = some (.deferred (some [])) := by rw [← hW2]; exact (World.putObj_heap_other hDl).trans ((hab.block _ hDl0).trans h.K)
  have hLb : W2.heap[l]? = some (.loop { apRecU fn sv Bs D .ready none with state := .busy }) := by rw [← hW2]; exact World.putObj_heap_same (by simp; omega)
  have hxb : W2.heap[W.heap.size]? = some (.cells #[.string x.kind, .string x.id, .string x.rel] 25) := by rw [← hW2]; exact (World.putObj_heap_other (by omega)).trans (heap_alloc_at rfl)
  have hrowb : W2.ownsRow w0.heap.size 25 3 v ss.length (ss.flatMap LUser.cells) := (hrow.alloc _).kept hg2 (ownsRow_ne_a (hrow.alloc _) ((hab.block l hl).trans h.L) (fun cur e => by first | cases e | exact hne (Obj.cells.inj e).2.1))
  have hbb : Below w0.heap.size w0 W2 := (h.below.alloc h.below.size _).grown hg2 (by have := h.below.size; simp; omega) (fun k e => by cases e; exact h0l)
  have y0 : W2.cell? ⟨W.heap.size, 0, none⟩ = some (.string x.kind) := by simp [World.cell?, hxb]
  have y1 : W2.cell? ⟨W.heap.size, 1, none⟩ = some (.string x.id) := by simp [World.cell?, hxb]
  have y2 : W2.cell? ⟨W.heap.size, 2, none⟩ = some (.string x.rel) := by simp [World.cell?, hxb]
  have hBltb : Bs < W2.heap.size := by omega
  have hlb : l < W2.heap.size := by omega
  have hDltb : D < W2.heap.size := by omega
  obtain ⟨hcb, hfb⟩ := cell_of_box_a hvb
  have ne_ofb : ∀ {j : Nat} {o : Obj}, W2.heap[j]? = some o → (∀ cur, o ≠ .cells cur 25 (0, 0)) → some j ≠ v.ownBlock := fun hj hno => by
    rcases ownsRow_ne_a hrowb hj hno with e | e
    · rw [e]; simp
    · exact fun e' => e e'.symm
  clear hW2 hbr hxb hszb
  unfold apBodyU
  gi_wp2_with (first
    | (gi_at_builtin; refine wpListIn_append_own _ rfl _ _ 29 rfl w0.heap.size 25 i0 (.agg #[.string ⟨#[]⟩, .string ⟨#[]⟩, .string ⟨#[]⟩]) 3 48 Tryz.underlying29 hi hz0 hz1 hz2 rfl (by decide) _ _ _ rfl (hrowb.alloc _) ⟨W2.heap.size, 0, none⟩ 1 1 x.cells rfl rfl (cell_user_new _ _) (LUser.one x) (by simp only [maxLen]; omega) (by omega) (by have := hbb.size; simp; omega) ?_; intro v' w3 hown' hg3 hnil3
       have hv3 : w3.heap[Bs]? = some (.cells #[v] 29 (0, 0)) := (hg3.block Bs (by simp; omega) (ne_ofb hvb (fun cur e => by first | cases e | exact hne (Obj.cells.inj e).2.1))).trans ((Below.heap_alloc _ _ Bs hBltb).trans hvb)
       obtain ⟨hc3, hf3⟩ := cell_of_box_a hv3
       obtain ⟨g', cap', cur', rfl, hbase', hgb', hr1, hr2, hr3, hr4⟩ : ∃ g' cap' cur', v' = .slice (some ⟨g', 0, none⟩) (ss.length + 1) cap' ∧ w0.heap.size ≤ g' ∧ w3.heap[g']? = some (.cells cur' 25 (0, 0)) ∧ ss.length + 1 ≤ cap' ∧ cap' ≤ maxLen ∧ cur'.size = cap' * 3 ∧ cur'.toList.take ((ss.length + 1) * 3) = ss.flatMap LUser.cells ++ x.cells := by
         rcases hown'.2 with ⟨_, h0⟩ | h'
         · exact absurd h0 (by omega)
         · exact h'
       go_frame)
    | gi_round_op_a)
  have hg3' : (W2.alloc (.cells #[.string x.kind, .string x.id, .string x.rel] 25)).grownBy w3 v.ownBlock := hg3
  have hL3 : w3.heap[l]? = some (.loop { apRecU fn sv Bs D .ready none with state := .busy }) := (hg3'.block l (by simp; omega) (ne_ofb hLb (fun cur e => by first | cases e | exact hne (Obj.cells.inj e).2.1))).trans ((Below.heap_alloc _ _ l hlb).trans hLb)
  have hK3 : w3.heap[D]? = some (.deferred (some [])) := (hg3'.block D (by simp; omega) (ne_ofb hKb (fun cur e => by first | cases e | exact hne (Obj.cells.inj e).2.1))).trans ((Below.heap_alloc _ _ D hDltb).trans hKb)
  obtain ⟨w4, hw4⟩ : ∃ w4, w3.setCell ⟨Bs, 0, none⟩ (.slice (some ⟨g', 0, none⟩) (ss.length + 1) cap') = w4 := ⟨_, rfl⟩
  rw [hw4]
  have hg4 : w3.grownBy w4 (some Bs) := by rw [← hw4]; exact grownBy_setCell0_a _ _ _
  have hv4 : w4.heap[Bs]? = some (.cells #[.slice (some ⟨g', 0, none⟩) (ss.length + 1) cap'] 29 (0, 0)) := by rw [← hw4]; exact heap_setCell_box_a _ hv3
  have hL4 : w4.heap[l]? = some (.loop { apRecU fn sv Bs D .ready none with state := .busy }) := (hg4.block l (Array.getElem?_eq_some_iff.1 hL3).1 (fun e => hBl (by cases e; rfl))).trans hL3
  have hK4 : w4.heap[D]? = some (.deferred (some [])) := (hg4.block D (Array.getElem?_eq_some_iff.1 hK3).1 (fun e => hDB (by cases e; rfl))).trans hK3
  have hrow4 := hown'.kept hg4 (ownsRow_ne_a hown' hv3 (fun cur e => by first | cases e | exact hne (Obj.cells.inj e).2.1))
  have hl4 : l < w4.heap.size := (Array.getElem?_eq_some_iff.1 hL4).1
  have hb3 : Below w0.heap.size w0 w3 := (hbb.alloc hbb.size _).grown hg3' (by have := hbb.size; simp; omega) (fun k e => (hrowb.lt k e).1)
  have hb4 : Below w0.heap.size w0 w4 := hb3.grown hg4 hb3.size (fun k e => by cases e; exact h0B)
  have hk4 : KeepsWalks W w4 := ((hkb.trans (KeepsWalks.alloc _ _)).trans (KeepsWalks.of_grownBy hg3' (ownsRow_not_walk_a (hrowb.alloc _)))).trans (by rw [← hw4]; exact KeepsWalks.setCell _ _ _)
  clear hw4
  refine ⟨_, _, run_endRound none hL4, rfl, ⟨⟨_, (World.putObj_heap_other hBl).trans hv4, ?_⟩, World.putObj_heap_same hl4, (World.putObj_heap_other hDl).trans hK4, hb4.grown (grownBy_putObj_a _ _ _) hb4.size (fun k e => by cases e; exact h0l)⟩, hk4.trans (KeepsWalks.putObj _ hL4 rfl)⟩
  have := hrow4.kept (grownBy_putObj_a w4 l (.loop { { apRecU fn sv Bs D .ready none with state := .busy } with state := if (none : Option Code).isNone then .ready else .done, pending := none })) (ownsRow_ne_a hrow4 hL4 (fun cur e => by first | cases e | exact hne (Obj.cells.inj e).2.1))
  simpa using this

set_option maxRecDepth 100000 in
set_option maxHeartbeats 4000000 in
theorem appendSeqU_in (F : Fence) (n : Nat) (h11 : F.fn 100) (hro : F.round = none) (hn : 2 ≤ n) (g : Nat) (lb : Array Value) (hFg : F.fn g) (eg : ∀ args w, (callFunc g args).run Tryz.prog w = .ok (.enter g args) w)
    (S : List LUser → Prop) (N : Nat) (hN : N ≤ 1000000000000) (w : World) (hseq : SeqGives F (n - 1) Tryz.prog g lb LUser.val S N w) :
    CallsIn F n Tryz.prog 100 #[.slice none 0 0, .func (.func g) #[] lb] w fun e w' => ∃ (v : Value) (ss : List LUser), e = .returned v ∧ S ss ∧ w'.ownsRow w.heap.size 25 3 v ss.length (ss.flatMap LUser.cells) ∧ Below w.heap.size w w' := by
  have h1 : 1 ≤ n := by omega
  have hne : (29 : Nat) ≠ 25 := by decide
  have u24 := run_underlying Tryz.underlying29
  refine callsIn_of_wp_marks Tryz.func100 rfl h11 ?_ hro
  simp only [Tryz.ntmps100, List.size_toArray, List.length_cons, List.length_nil, Nat.reduceAdd, Nat.reduceSub, Array.replicate_succ, Array.replicate_zero, List.push_toArray, List.append_toArray, List.nil_append, List.cons_append]
  gi_wp2
  refine wpIn_rangeFunc ?_
  intro fn hfn
  rw [hro]
  obtain ⟨W0, hW0⟩ : ∃ W0, w.alloc (.cells #[.slice none 0 0] 29) = W0 := ⟨_, rfl⟩
  have hs0 : W0.heap.size = w.heap.size + 1 := by rw [← hW0]; simp
  have hv0 : W0.heap[w.heap.size]? = some (.cells #[.slice none 0 0] 29 (0, 0)) := by rw [← hW0]; exact World.alloc_heap_new w _
  have hb0 : Below w.heap.size w W0 := by rw [← hW0]; exact (Below.refl _ w).alloc (Nat.le_refl _) _
  rw [hW0]
  obtain ⟨W1, hW1⟩ : ∃ W1, (W0.alloc (.deferred (some []))).alloc (.loop (apRecU fn (.func (.func g) #[] lb) w.heap.size W0.heap.size .ready none)) = W1 := ⟨_, rfl⟩
  have hold : ∀ k, k < W0.heap.size → W1.heap[k]? = W0.heap[k]? := fun k hk => by
    rw [← hW1]; exact (Below.heap_alloc _ _ k (by simp; omega)).trans (Below.heap_alloc _ _ k hk)
  have hb1 : Below w.heap.size w W1 := by rw [← hW1]; exact (hb0.alloc hb0.size _).alloc (by have := hb0.size; simp; omega) _
  have hs1 : W1.heap.size = W0.heap.size + 2 := by rw [← hW1]; simp
  have hM : ApU w fn (.func (.func g) #[] lb) w.heap.size (W0.heap.size + 1) W0.heap.size [] W1 :=
    ⟨⟨_, (hold w.heap.size (by omega)).trans hv0, ⟨rfl, .inl ⟨rfl, rfl⟩⟩⟩,
     by rw [← hW1]; have := World.alloc_heap_new (W0.alloc (.deferred (some []))) (.loop (apRecU fn (.func (.func g) #[] lb) w.heap.size W0.heap.size .ready none)); rwa [World.size_alloc] at this,
     by rw [← hW1]; exact (Below.heap_alloc _ _ _ (by simp)).trans (World.alloc_heap_new W0 _), hb1⟩
  refine ⟨W0.heap.size + 1, [{ target := .collected W0.heap.size, args := #[] }], W1, { target := .fn (.func g) lb, args := #[.func (.yield (W0.heap.size + 1)) #[] #[]] }, W1, g,
    #[.func (.yield (W0.heap.size + 1)) #[] #[]] ++ lb, W1, ?_, ?_, ?_, ?_, fun _ => h1, ?_⟩
  · rw [← hW1]; exact run_enterLoop_outer _ _ _ _ _
  · simp [resolve, go_sem]
  · intro f' hf'; simp [Target.leads] at hf'; subst hf'; exact hFg
  · simp [invoke, go_sem, eg]
  · refine (hseq (W0.heap.size + 1) (ApU w fn (.func (.func g) #[] lb) w.heap.size (W0.heap.size + 1) W0.heap.size) W1 hb1 (apU_abides _ _ _ _ _ _ _ hb1.size)
      (fun pre x W hJ hl => apYieldU F (n - 1 - 1) w fn hfn _ w.heap.size (W0.heap.size + 1) W0.heap.size (by omega) (by omega) (by omega) (Nat.le_refl _) (by omega) N hN pre x W hJ hl) hM).mono ?_
    rintro e W2 ⟨⟨v0, rfl⟩, ss, hS, h2⟩
    obtain ⟨v, hv, hrow⟩ := h2.box
    have hend := run_endLoop (P := Tryz.prog) h2.L (by simp [apRecU])
    obtain ⟨W3, hW3⟩ : ∃ W3, W2.putObj (W0.heap.size + 1) (.loop { apRecU fn (.func (.func g) #[] lb) w.heap.size W0.heap.size .ready none with state := .exhausted }) = W3 := ⟨_, rfl⟩
    rw [hW3] at hend
    have hg3 : W2.grownBy W3 (some (W0.heap.size + 1)) := by rw [← hW3]; exact grownBy_putObj_a _ _ _
    have hv3 : W3.heap[w.heap.size]? = some (.cells #[v] 29 (0, 0)) := by rw [← hW3]; exact (World.putObj_heap_other (by omega)).trans hv
    have hK3 : W3.heap[W0.heap.size]? = some (.deferred (some [])) := by rw [← hW3]; exact (World.putObj_heap_other (by omega)).trans h2.K
    have hrow3 := hrow.kept hg3 (ownsRow_ne_a hrow h2.L (fun cur e => by first | cases e | exact hne (Obj.cells.inj e).2.1))
    have hb3 : Below w.heap.size w W3 := h2.below.grown hg3 h2.below.size (fun k e => by cases e; omega)
    obtain ⟨hc3, hf3⟩ := cell_of_box_a hv3
    clear hW3
    refine ⟨none, W3, hend, ?_⟩
    gi_wp2
    rw [← hs0]
    refine ⟨by simp, .inl ⟨_, _, rfl, run_takeDeferred hK3, ?_⟩⟩
    exact ⟨_, results_tmp rfl _ _ _, v, ss, rfl, hS, hrow3.kept (grownBy_putObj_a _ _ _) (ownsRow_ne_a hrow3 hK3 (fun cur e => by first | cases e | exact hne (Obj.cells.inj e).2.1)), hb3.grown (grownBy_putObj_a _ _ _) hb3.size (fun k e => by cases e; omega)⟩

set_option maxRecDepth 100000 in
set_option maxHeartbeats 2000000 in
theorem collectU_in (F : Fence) (n : Nat) (h8 : F.fn 58) (h11 : F.fn 100) (hro : F.round = none) (hn : 3 ≤ n) (g : Nat) (lb : Array Value) (hFg : F.fn g) (eg : ∀ args w, (callFunc g args).run Tryz.prog w = .ok (.enter g args) w)
    (S : List LUser → Prop) (N : Nat) (hN : N ≤ 1000000000000) (w : World) (hseq : SeqGives F (n - 1 - 1) Tryz.prog g lb LUser.val S N w) :
    CallsIn F n Tryz.prog 58 #[.func (.func g) #[] lb] w fun e w' => ∃ (v : Value) (ss : List LUser), e = .returned v ∧ S ss ∧ w'.ownsRow w.heap.size 25 3 v ss.length (ss.flatMap LUser.cells) ∧ Below w.heap.size w w' := by
  have h1 : 1 ≤ n := by omega
  have e11 : ∀ args w, (callFunc 100 args).run Tryz.prog w = .ok (.enter 100 args) w := enters_of Tryz.func100 (by kernel_rfl) rfl
  refine callsIn_of_wp Tryz.func58 rfl h8 ?_ hro
  simp only [Tryz.ntmps58, List.size_toArray, List.length_cons, List.length_nil, Nat.reduceAdd, Nat.reduceSub, Array.replicate_succ, Array.replicate_zero, List.push_toArray, List.append_toArray, List.nil_append, List.cons_append]
  gi_wp2_with (gi_at_fn 100; refine (appendSeqU_in F (n - 1) h11 hro (by omega) g lb hFg eg S N hN _ hseq).mono ?_; rintro e w' ⟨v, ss, rfl, hS, hrow, hb⟩)
  go_ret
  exact ⟨v, ss, rfl, hS, hrow, hb⟩

/-- maps.Keys(m). -/
theorem keys_users (mb : Nat) (W : World) : Calls Tryz.prog 59 #[.map (some mb)] W fun e w' => e = .returned (.func (.func 101) #[] #[.pointer (some ⟨W.heap.size, 0, none⟩)]) ∧ w' = W.alloc (.cells #[.map (some mb)] 105) := by
  go_enter Tryz.func59, Tryz.ntmps59
  go_wp2
  go_ret
  exact ⟨rfl, rfl⟩
theorem collect_users (Bm mb : Nat) (S : List LUser) (hS : S.length ≤ 1000000000000) (w : World) (hBm : Bm < w.heap.size) (hm : w.cell? ⟨Bm, 0, none⟩ = some (.map (some mb))) (hown : USetAt w mb S) :
    Calls Tryz.prog 58 #[.func (.func 101) #[] #[.pointer (some ⟨Bm, 0, none⟩)]] w fun e w' => ∃ (v : Value) (ss : List LUser), e = .returned v ∧ ss.Perm S ∧ OwnL w' w.heap.size 25 3 LUser.cells v ss ∧ Below w.heap.size w w' :=
  (callsIn_wide (n := 5)).1 (collectU_in Fence.wide 5 trivial trivial rfl (by omega) _ _ trivial (enters_of Tryz.func101 (by kernel_rfl) rfl) _ S.length hS w (keysU_gives Fence.wide _ trivial rfl (by omega) Bm mb S w hBm hm hown))
end Go.Proofs.YtnfkjodiielidaaGreatDoor

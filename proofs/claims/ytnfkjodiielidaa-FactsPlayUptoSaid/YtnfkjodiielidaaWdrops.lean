/- FactsDrops: the walk. -/
import Derived.Test.YtnfkjodiielidaaWawake
import Derived.Test.YtnfkjodiielidaaAppin
namespace Go.Proofs.Ytnfkjodiielidaa
set_option linter.unusedVariables false
set_option linter.unusedSimpArgs false
open Go.RowKit

/-- Where a law over two tuples stands: their boxes, the set. -/
structure Box2 (w W : World) (fb mb : Nat) (S : List LTuple) (x y : LTuple) (v : Value) (l : List LTuple) : Prop where
  facts : FactsAt W fb mb S
  below : Below w.heap.size w W
  boxX : W.heap[w.heap.size]? = some (.cells x.cells.toArray 32)
  boxY : W.heap[w.heap.size + 1]? = some (.cells y.cells.toArray 32)
  past : w.heap.size + 2 ≤ mb
  rep : RepD (fun b => b < w.heap.size) W (.slice 6 (l.map LTuple.d)) v
section
variable {w W W' : World} {fb mb : Nat} {S S' : List LTuple} {x y : LTuple} {v : Value} {l : List LTuple}
theorem Box2.next (h : Box2 w W fb mb S x y v l) (hb : Below W.heap.size W W') : Box2 w W' fb mb S x y v l :=
  ⟨h.facts.below hb, below_past h.below hb, (hb.block _ (Array.getElem?_eq_some_iff.1 h.boxX).1).trans h.boxX, (hb.block _ (Array.getElem?_eq_some_iff.1 h.boxY).1).trans h.boxY, h.past, h.rep.old hb⟩
theorem Box2.put (h : Box2 w W fb mb S x y v l) (hb : Fr (fun k => k = mb) W W') (hf : FactsAt W' fb mb S') : Box2 w W' fb mb S' x y v l :=
  ⟨hf, h.below.trans (hb.below h.below.size (fun k hk e => by have := h.past; omega)), (hb.block _ (Array.getElem?_eq_some_iff.1 h.boxX).1 (by have := h.past; omega)).trans h.boxX, (hb.block _ (Array.getElem?_eq_some_iff.1 h.boxY).1 (by have := h.past; omega)).trans h.boxY, h.past,
    h.rep.fr hb (fun b hb1 e => by have := h.past; omega)⟩
theorem Box2.cells (h : Box2 w W fb mb S x y v l) :
    (W.cell? ⟨w.heap.size, 0, none⟩ = some (.string x.kind) ∧ W.cell? ⟨w.heap.size, 1, none⟩ = some (.string x.id) ∧ W.cell? ⟨w.heap.size, 2, none⟩ = some (.string x.rel) ∧ W.cell? ⟨w.heap.size, 3, none⟩ = some (.string x.user.kind) ∧ W.cell? ⟨w.heap.size, 4, none⟩ = some (.string x.user.id) ∧ W.cell? ⟨w.heap.size, 5, none⟩ = some (.string x.user.rel)) ∧
    (W.cell? ⟨w.heap.size + 1, 0, none⟩ = some (.string y.kind) ∧ W.cell? ⟨w.heap.size + 1, 1, none⟩ = some (.string y.id) ∧ W.cell? ⟨w.heap.size + 1, 2, none⟩ = some (.string y.rel) ∧ W.cell? ⟨w.heap.size + 1, 3, none⟩ = some (.string y.user.kind) ∧ W.cell? ⟨w.heap.size + 1, 4, none⟩ = some (.string y.user.id) ∧ W.cell? ⟨w.heap.size + 1, 5, none⟩ = some (.string y.user.rel)) :=
  ⟨box_cells h.boxX, box_cells h.boxY⟩
theorem putS_length (S : List LTuple) (t : LTuple) : (putS S t).length ≤ S.length + 1 := by unfold putS; split <;> simp
theorem newS_length_le (l : List LTuple) : (newS l).length ≤ l.length := by
  have : ∀ (l S : List LTuple), (l.foldl putS S).length ≤ S.length + l.length := by
    intro l
    induction l with
    | nil => intro S; simp
    | cons t l ih => intro S; have h1 := ih (putS S t); have h2 := putS_length S t; simp only [List.foldl_cons, List.length_cons]; omega
  have h := this l []
  simpa [newS] using h
theorem canon_length {S : List LTuple} (hn : S.Nodup) : (canon tLess S).length = S.length :=
  ((List.perm_ext_iff_of_nodup ((rising_canon lin_tLess S).nodup lin_tLess) hn).2 fun z => mem_canon z S).length_eq
theorem b2_All (h : Box2 w W fb mb S x y v l) (hS : S.length ≤ 1000000000000) : Calls Try.prog 19 #[.pointer (some ⟨fb, 0, none⟩)] W fun e W' => ∃ a c, e = .returned (.slice a S.length c) ∧ Box2 w W' fb mb S x y v l := by
  refine (facts_All h.facts hS).mono ?_
  rintro e W' ⟨v, rfl, ho, hb⟩
  obtain ⟨a, c, rfl, _⟩ := ho.form
  exact ⟨a, c, by rw [canon_length h.facts.nodup], h.next hb⟩
theorem b2_Has (h : Box2 w W fb mb S x y v l) (z : LTuple) : Calls Try.prog 13 #[.pointer (some ⟨fb, 0, none⟩), .agg #[.string z.kind, .string z.id, .string z.rel, .string z.user.kind, .string z.user.id, .string z.user.rel]] W fun e W' => e = .returned (.bool (decide (z ∈ S))) ∧ Box2 w W' fb mb S x y v l := by
  refine (facts_Has h.facts _ _ _ _ _ _).mono ?_
  rintro e W' ⟨rfl, hb⟩
  exact ⟨rfl, h.next hb⟩
theorem b2_Put (h : Box2 w W fb mb S x y v l) (z : LTuple) : Calls Try.prog 15 #[.pointer (some ⟨fb, 0, none⟩), .agg #[.string z.kind, .string z.id, .string z.rel, .string z.user.kind, .string z.user.id, .string z.user.rel]] W fun e W' => e = .returned (.bool (mayPut S z)) ∧ Box2 w W' fb mb (putS S z) x y v l := by
  refine (facts_Put h.facts z).mono ?_
  rintro e W' ⟨rfl, hf, hb⟩
  exact ⟨rfl, h.put hb hf⟩
theorem b2_Drop (h : Box2 w W fb mb S x y v l) (z : LTuple) : Calls Try.prog 17 #[.pointer (some ⟨fb, 0, none⟩), .agg #[.string z.kind, .string z.id, .string z.rel, .string z.user.kind, .string z.user.id, .string z.user.rel]] W fun e W' => e = .returned (.bool (decide (z ∈ S))) ∧ Box2 w W' fb mb (dropS S z) x y v l := by
  refine (facts_Drop h.facts z).mono ?_
  rintro e W' ⟨rfl, hf, hb⟩
  exact ⟨rfl, h.put hb hf⟩
theorem b2_awake (h : Box2 w W fb mb S x y v l) : Calls Try.prog 9 #[] W fun e W' => e = .returned (.bool true) ∧ Box2 w W' fb mb S x y v l := by
  refine (awake_true W).mono ?_
  rintro e W' ⟨rfl, hb⟩
  exact ⟨rfl, h.next hb⟩
theorem b2_Few2 (h : Box2 w W fb mb S x y v l) : Calls Try.prog 10 #[.slice (some ⟨W.heap.size, 0, none⟩) 2 2] (W.alloc (.cells #[.string x.kind, .string x.id, .string x.rel, .string x.user.kind, .string x.user.id, .string x.user.rel, .string y.kind, .string y.id, .string y.rel, .string y.user.kind, .string y.user.id, .string y.user.rel] 32)) fun e W' => e = .returned (.bool (fewB [x, y])) ∧ Box2 w W' fb mb S x y v l := by
  have hB : Below W.heap.size W (W.alloc (.cells #[.string x.kind, .string x.id, .string x.rel, .string x.user.kind, .string x.user.id, .string x.user.rel, .string y.kind, .string y.id, .string y.rel, .string y.user.kind, .string y.user.id, .string y.user.rel] 32)) := (Below.refl _ _).alloc (Nat.le_refl _) _
  have ho := own_of_block (base := 0) (g := W.heap.size) (n := 2) LTuple.len (w := (W.alloc (.cells #[.string x.kind, .string x.id, .string x.rel, .string x.user.kind, .string x.user.id, .string x.user.rel, .string y.kind, .string y.id, .string y.rel, .string y.user.kind, .string y.user.id, .string y.user.rel] 32))) (e := 32) [x, y] (by omega) rfl (by simp [maxLen]) (heap_alloc_at rfl)
  refine (ref_Few (ho.tuples (A := fun _ => True) (fun _ _ => trivial) (by simp))).mono ?_
  rintro e W' ⟨rfl, hb⟩
  exact ⟨rfl, h.next (below_past hB hb)⟩
theorem b2_Few (h : Box2 w W fb mb S x y v l) : Calls Try.prog 10 #[v] W fun e W' => e = .returned (.bool (fewB l)) ∧ Box2 w W' fb mb S x y v l := by
  refine (ref_Few h.rep).mono ?_
  rintro e W' ⟨rfl, hb⟩
  exact ⟨rfl, h.next hb⟩
end

/-- What is put is there, what is dropped isn't, and nothing else changes. -/
theorem drops_key {S : List LTuple} (hnd : S.Nodup) (t o : LTuple) : ∃ (bT p bO : Bool) (m : Nat), decide (t ∈ S) = bT ∧ mayPut S t = p ∧ (bT && p) = false ∧ decide (o ∈ S) = bO ∧ decide (t ∈ putS S t) = (bT || p) ∧ decide (t ∈ dropS (putS S t) t) = false ∧
      (dropS (putS S t) t).length = m ∧ (bT = true → (S.length : Int) - 1 = m) ∧ (bT = false → S.length = m) ∧ (t ≠ o → decide (o ∈ putS S t) = bO ∧ decide (o ∈ dropS (putS S t) t) = bO) := by
  by_cases hT : t ∈ S
  · have hm : mayPut S t = false := by simp [mayPut, hT]
    have hp : putS S t = S := by simp [putS, hm]
    have h0 : 0 < S.length := List.length_pos_of_mem hT
    refine ⟨true, false, decide (o ∈ S), S.length - 1, by simp [hT], hm, rfl, rfl, by simp [hp, hT], ?_, ?_, ?_, (fun h => by cases h), ?_⟩
    · rw [hp]; exact decide_eq_false hnd.not_mem_erase
    · rw [hp]; exact List.length_erase_of_mem hT
    · intro _; omega
    · intro hto
      rw [hp]
      exact ⟨rfl, by simp only [dropS, List.mem_erase_of_ne (Ne.symm hto)]⟩
  · cases hok : okTuple t with
    | true =>
      have hm : mayPut S t = true := by simp [mayPut, hT, hok]
      have hp : putS S t = S ++ [t] := by simp [putS, hm]
      have hd : dropS (S ++ [t]) t = S := by
        unfold dropS
        rw [List.erase_append_right _ hT]
        simp
      refine ⟨false, true, decide (o ∈ S), S.length, by simp [hT], hm, rfl, rfl, by simp [hp], by rw [hp, hd]; simp [hT], by rw [hp, hd], fun h => by (cases h), fun _ => rfl, fun hto => ?_⟩
      rw [hp, hd]
      exact ⟨by simp [Ne.symm hto], rfl⟩
    | false =>
      have hm : mayPut S t = false := by simp [mayPut, hok]
      have hp : putS S t = S := by simp [putS, hm]
      have hd : dropS S t = S := List.erase_of_not_mem hT
      refine ⟨false, false, decide (o ∈ S), S.length, by simp [hT], hm, rfl, rfl, by simp [hp, hT], by rw [hp, hd]; simp [hT], by rw [hp, hd], fun h => by (cases h), fun _ => rfl, fun hto => ?_⟩
      rw [hp, hd]
      exact ⟨rfl, rfl⟩

set_option maxRecDepth 100000 in
set_option maxHeartbeats 40000000 in
theorem drops_walk {w : World} {l : List LTuple} {v : Value} (hv : RepD (fun _ => True) w (.slice 6 (l.map LTuple.d)) v) (hs : Slc v) (hl : l.length ≤ 1048576) (t o : LTuple) :
    Calls Try.prog 7 #[v, t.val, o.val] w fun e w' => e = .returned (.bool true) ∧ Below w.heap.size w w' := by
  have hB0 : Below w.heap.size w ((w.alloc (.cells #[.string t.kind, .string t.id, .string t.rel, .string t.user.kind, .string t.user.id, .string t.user.rel] 32)).alloc (.cells #[.string o.kind, .string o.id, .string o.rel, .string o.user.kind, .string o.user.id, .string o.user.rel] 32)) := ((Below.refl _ w).alloc (Nat.le_refl _) _).alloc (by simp) _
  have hv2 := hv.old (hB0.alloc hB0.size (.cells #[] 32))
  have hmade := own_made (w := ((w.alloc (.cells #[.string t.kind, .string t.id, .string t.rel, .string t.user.kind, .string t.user.id, .string t.user.rel] 32)).alloc (.cells #[.string o.kind, .string o.id, .string o.rel, .string o.user.kind, .string o.user.id, .string o.user.rel] 32))) (N := w.heap.size + 1 + 1) (by simp) 32 6 LTuple.cells
  have HV := Lib.hid hv2; have HS := Lib.hid hs; have HM := Lib.hid hmade
  have HV0 := Lib.hid (hv.mono (A' := fun b => b < w.heap.size) (fun b _ hlt => hlt))
  clear hv2 hs hmade hv
  unfold LTuple.val
  go_enter Try.func7, Try.ntmps7
  go_wp2_with (at_builtin; go_loud (refine wpList_app_in (dd := LTuple.d) (w.heap.size + 1 + 1) rfl _ _ _ 32 _ 6 96 rfl Try.underlying22 info_tuple rfl (by omega) (by omega) LTuple.cells LTuple.len LTuple.one tuple_cell (.slice (some ⟨w.heap.size + 1 + 1, 0, none⟩) 0 0) v [] l rfl rfl HV.out HS.out HM.out (by simp) (by simp; omega) ?_); intro v1 w1 hO hb1)
  have hN := facts_New l v1 w1 (hO.tuples (A := fun _ => True) (fun _ _ => trivial) (by simp; omega))
  have HN := Lib.hid hN; clear hN hO HM
  go_wp2_with fail
  refine HN.out.mono ?_
  rintro r w2 ⟨fb, mb, rfl, hfb, hmb, hF, _, hb2⟩
  have hB1 : Below w.heap.size w w1 := (hB0.alloc hB0.size (.cells #[] 32)).trans (hb1.mono (by omega))
  have hB2 := below_past hB1 hb2
  have ST := Lib.hid (show Box2 w w2 fb mb (newS l) t o v l from ⟨hF, hB2,
    (hb2.block _ (by have := hb1.size; simp at this; omega)).trans ((hb1.block _ (by omega)).trans ((Below.heap_alloc _ _ _ (by simp; omega)).trans ((Below.heap_alloc _ _ _ (by simp)).trans (heap_alloc_at rfl)))),
    (hb2.block _ (by have := hb1.size; simp at this; omega)).trans ((hb1.block _ (by omega)).trans ((Below.heap_alloc _ _ _ (by simp)).trans (heap_alloc_at (by simp)))),
    by have := hb1.size; simp at this; omega, HV0.out.old hB2⟩)
  clear hF HN HV HV0 hb1 hb2 hB0 hB1 hB2 hfb hmb
  have hlen : (newS l).length ≤ 1048576 := Nat.le_trans (newS_length_le l) hl
  generalize newS l = S at *
  have hput : putS S t = if mayPut S t then S ++ [t] else S := rfl
  have hmay : mayPut S t = (okTuple t && !decide (t ∈ S)) := rfl
  have hnd : S.Nodup := ST.out.facts.nodup
  have c0 := fun W (h : Box2 w W fb mb S t o v l) => b2_Few h
  have c1 := fun W (h : Box2 w W fb mb S t o v l) => b2_Few2 h
  have t0 := fun W (h : Box2 w W fb mb S t o v l) => b2_Has h t
  have o0 := fun W (h : Box2 w W fb mb S t o v l) => b2_Has h o
  have p0 := fun W (h : Box2 w W fb mb S t o v l) => b2_Put h t
  have a0 := fun W (h : Box2 w W fb mb S t o v l) => b2_All h (by omega)
  have t1 := fun W (h : Box2 w W fb mb (putS S t) t o v l) => b2_Has h t
  have o1 := fun W (h : Box2 w W fb mb (putS S t) t o v l) => b2_Has h o
  have d1 := fun W (h : Box2 w W fb mb (putS S t) t o v l) => b2_Drop h t
  have t2 := fun W (h : Box2 w W fb mb (dropS (putS S t) t) t o v l) => b2_Has h t
  have o2 := fun W (h : Box2 w W fb mb (dropS (putS S t) t) t o v l) => b2_Has h o
  have a2 := fun W (h : Box2 w W fb mb (dropS (putS S t) t) t o v l) => b2_All h (by
    have h1 := putS_length S t
    have h2 : (dropS (putS S t) t).length ≤ (putS S t).length := List.length_erase_le
    omega)
  -- the plain law
  have key : ∃ (bT p bO : Bool) (m : Nat), decide (t ∈ S) = bT ∧ mayPut S t = p ∧ (bT && p) = false ∧ decide (o ∈ S) = bO ∧ decide (t ∈ putS S t) = (bT || p) ∧ decide (t ∈ dropS (putS S t) t) = false ∧
      (dropS (putS S t) t).length = m ∧ (bT = true → (S.length : Int) - 1 = m) ∧ (bT = false → S.length = m) ∧ (t ≠ o → decide (o ∈ putS S t) = bO ∧ decide (o ∈ dropS (putS S t) t) = bO) := by
    exact drops_key hnd t o
  obtain ⟨bT, p, bO, m, hT, hP, hTP, hO, hT1, hT2, hm, hm1, hm2, hO12⟩ := key
  rw [hT] at t0
  rw [hO] at o0
  rw [hP] at p0
  rw [hT1] at t1 d1
  rw [hT2] at t2
  rw [hm] at a2
  clear hput hmay hnd hT hO hP hT1 hT2 hm
  generalize decide (o ∈ putS S t) = bO1 at *
  generalize decide (o ∈ dropS (putS S t) t) = bO2 at *
  generalize dropS (putS S t) t = S2 at *
  generalize putS S t = S1 at *
  generalize fewB l = f1 at *
  generalize fewB [t, o] = f2 at *
  have hn63 : S.length ≤ 1048576 := hlen
  have C0 := Lib.hid c0; have C1 := Lib.hid c1; have T0 := Lib.hid t0; have O0 := Lib.hid o0; have P0 := Lib.hid p0; have A0 := Lib.hid a0; have T1 := Lib.hid t1; have O1 := Lib.hid o1; have D1 := Lib.hid d1; have T2 := Lib.hid t2; have O2 := Lib.hid o2; have A2 := Lib.hid a2
  clear c0 c1 t0 o0 p0 a0 t1 o1 d1 t2 o2 a2
  obtain ⟨x0, x1, x2, x3, x4, x5⟩ := box_cells ST.out.boxX
  obtain ⟨y0, y1, y2, y3, y4, y5⟩ := box_cells ST.out.boxY
  have HM1 := Lib.hid hm1; have HM2 := Lib.hid hm2; have HTP := Lib.hid hTP; have HO12 := Lib.hid hO12; have HLEN := Lib.hid hlen
  clear hm1 hm2 hTP hO12 hlen hn63
  cases f1
  · go_wp2_with (first
      | (go_at_call 9; with_reducible refine (b2_awake ST.out).mono ?_; rintro r w3 ⟨rfl, hx⟩; clear ST x0 x1 x2 x3 x4 x5 y0 y1 y2 y3 y4 y5; have ST := Lib.hid hx; clear hx; obtain ⟨x0, x1, x2, x3, x4, x5⟩ := box_cells ST.out.boxX; obtain ⟨y0, y1, y2, y3, y4, y5⟩ := box_cells ST.out.boxY)
      | (go_at_call 10; with_reducible refine (C0.out _ ST.out).mono ?_; rintro r w3 ⟨rfl, hx⟩; clear ST x0 x1 x2 x3 x4 x5 y0 y1 y2 y3 y4 y5; have ST := Lib.hid hx; clear hx; obtain ⟨x0, x1, x2, x3, x4, x5⟩ := box_cells ST.out.boxX; obtain ⟨y0, y1, y2, y3, y4, y5⟩ := box_cells ST.out.boxY)
      | (go_at_call 10; with_reducible refine (C1.out _ ST.out).mono ?_; rintro r w3 ⟨rfl, hx⟩; clear ST x0 x1 x2 x3 x4 x5 y0 y1 y2 y3 y4 y5; have ST := Lib.hid hx; clear hx; obtain ⟨x0, x1, x2, x3, x4, x5⟩ := box_cells ST.out.boxX; obtain ⟨y0, y1, y2, y3, y4, y5⟩ := box_cells ST.out.boxY)
      | (go_at_call 13; with_reducible refine (T0.out _ ST.out).mono ?_; rintro r w3 ⟨rfl, hx⟩; clear ST x0 x1 x2 x3 x4 x5 y0 y1 y2 y3 y4 y5; have ST := Lib.hid hx; clear hx; obtain ⟨x0, x1, x2, x3, x4, x5⟩ := box_cells ST.out.boxX; obtain ⟨y0, y1, y2, y3, y4, y5⟩ := box_cells ST.out.boxY)
      | (go_at_call 13; with_reducible refine (O0.out _ ST.out).mono ?_; rintro r w3 ⟨rfl, hx⟩; clear ST x0 x1 x2 x3 x4 x5 y0 y1 y2 y3 y4 y5; have ST := Lib.hid hx; clear hx; obtain ⟨x0, x1, x2, x3, x4, x5⟩ := box_cells ST.out.boxX; obtain ⟨y0, y1, y2, y3, y4, y5⟩ := box_cells ST.out.boxY)
      | (go_at_call 13; with_reducible refine (T1.out _ ST.out).mono ?_; rintro r w3 ⟨rfl, hx⟩; clear ST x0 x1 x2 x3 x4 x5 y0 y1 y2 y3 y4 y5; have ST := Lib.hid hx; clear hx; obtain ⟨x0, x1, x2, x3, x4, x5⟩ := box_cells ST.out.boxX; obtain ⟨y0, y1, y2, y3, y4, y5⟩ := box_cells ST.out.boxY)
      | (go_at_call 13; with_reducible refine (O1.out _ ST.out).mono ?_; rintro r w3 ⟨rfl, hx⟩; clear ST x0 x1 x2 x3 x4 x5 y0 y1 y2 y3 y4 y5; have ST := Lib.hid hx; clear hx; obtain ⟨x0, x1, x2, x3, x4, x5⟩ := box_cells ST.out.boxX; obtain ⟨y0, y1, y2, y3, y4, y5⟩ := box_cells ST.out.boxY)
      | (go_at_call 13; with_reducible refine (T2.out _ ST.out).mono ?_; rintro r w3 ⟨rfl, hx⟩; clear ST x0 x1 x2 x3 x4 x5 y0 y1 y2 y3 y4 y5; have ST := Lib.hid hx; clear hx; obtain ⟨x0, x1, x2, x3, x4, x5⟩ := box_cells ST.out.boxX; obtain ⟨y0, y1, y2, y3, y4, y5⟩ := box_cells ST.out.boxY)
      | (go_at_call 13; with_reducible refine (O2.out _ ST.out).mono ?_; rintro r w3 ⟨rfl, hx⟩; clear ST x0 x1 x2 x3 x4 x5 y0 y1 y2 y3 y4 y5; have ST := Lib.hid hx; clear hx; obtain ⟨x0, x1, x2, x3, x4, x5⟩ := box_cells ST.out.boxX; obtain ⟨y0, y1, y2, y3, y4, y5⟩ := box_cells ST.out.boxY)
      | (go_at_call 15; with_reducible refine (P0.out _ ST.out).mono ?_; rintro r w3 ⟨rfl, hx⟩; clear ST x0 x1 x2 x3 x4 x5 y0 y1 y2 y3 y4 y5; have ST := Lib.hid hx; clear hx; obtain ⟨x0, x1, x2, x3, x4, x5⟩ := box_cells ST.out.boxX; obtain ⟨y0, y1, y2, y3, y4, y5⟩ := box_cells ST.out.boxY)
      | (go_at_call 17; with_reducible refine (D1.out _ ST.out).mono ?_; rintro r w3 ⟨rfl, hx⟩; clear ST x0 x1 x2 x3 x4 x5 y0 y1 y2 y3 y4 y5; have ST := Lib.hid hx; clear hx; obtain ⟨x0, x1, x2, x3, x4, x5⟩ := box_cells ST.out.boxX; obtain ⟨y0, y1, y2, y3, y4, y5⟩ := box_cells ST.out.boxY)
      | (go_at_call 19; with_reducible refine (A0.out _ ST.out).mono ?_; rintro r w3 ⟨_, _, rfl, hx⟩; clear ST x0 x1 x2 x3 x4 x5 y0 y1 y2 y3 y4 y5; have ST := Lib.hid hx; clear hx; obtain ⟨x0, x1, x2, x3, x4, x5⟩ := box_cells ST.out.boxX; obtain ⟨y0, y1, y2, y3, y4, y5⟩ := box_cells ST.out.boxY)
      | (go_at_call 19; with_reducible refine (A2.out _ ST.out).mono ?_; rintro r w3 ⟨_, _, rfl, hx⟩; clear ST x0 x1 x2 x3 x4 x5 y0 y1 y2 y3 y4 y5; have ST := Lib.hid hx; clear hx; obtain ⟨x0, x1, x2, x3, x4, x5⟩ := box_cells ST.out.boxX; obtain ⟨y0, y1, y2, y3, y4, y5⟩ := box_cells ST.out.boxY)
)
    go_ret
    exact ⟨rfl, ST.out.below⟩
  cases f2
  · go_wp2_with (first
      | (go_at_call 9; with_reducible refine (b2_awake ST.out).mono ?_; rintro r w3 ⟨rfl, hx⟩; clear ST x0 x1 x2 x3 x4 x5 y0 y1 y2 y3 y4 y5; have ST := Lib.hid hx; clear hx; obtain ⟨x0, x1, x2, x3, x4, x5⟩ := box_cells ST.out.boxX; obtain ⟨y0, y1, y2, y3, y4, y5⟩ := box_cells ST.out.boxY)
      | (go_at_call 10; with_reducible refine (C0.out _ ST.out).mono ?_; rintro r w3 ⟨rfl, hx⟩; clear ST x0 x1 x2 x3 x4 x5 y0 y1 y2 y3 y4 y5; have ST := Lib.hid hx; clear hx; obtain ⟨x0, x1, x2, x3, x4, x5⟩ := box_cells ST.out.boxX; obtain ⟨y0, y1, y2, y3, y4, y5⟩ := box_cells ST.out.boxY)
      | (go_at_call 10; with_reducible refine (C1.out _ ST.out).mono ?_; rintro r w3 ⟨rfl, hx⟩; clear ST x0 x1 x2 x3 x4 x5 y0 y1 y2 y3 y4 y5; have ST := Lib.hid hx; clear hx; obtain ⟨x0, x1, x2, x3, x4, x5⟩ := box_cells ST.out.boxX; obtain ⟨y0, y1, y2, y3, y4, y5⟩ := box_cells ST.out.boxY)
      | (go_at_call 13; with_reducible refine (T0.out _ ST.out).mono ?_; rintro r w3 ⟨rfl, hx⟩; clear ST x0 x1 x2 x3 x4 x5 y0 y1 y2 y3 y4 y5; have ST := Lib.hid hx; clear hx; obtain ⟨x0, x1, x2, x3, x4, x5⟩ := box_cells ST.out.boxX; obtain ⟨y0, y1, y2, y3, y4, y5⟩ := box_cells ST.out.boxY)
      | (go_at_call 13; with_reducible refine (O0.out _ ST.out).mono ?_; rintro r w3 ⟨rfl, hx⟩; clear ST x0 x1 x2 x3 x4 x5 y0 y1 y2 y3 y4 y5; have ST := Lib.hid hx; clear hx; obtain ⟨x0, x1, x2, x3, x4, x5⟩ := box_cells ST.out.boxX; obtain ⟨y0, y1, y2, y3, y4, y5⟩ := box_cells ST.out.boxY)
      | (go_at_call 13; with_reducible refine (T1.out _ ST.out).mono ?_; rintro r w3 ⟨rfl, hx⟩; clear ST x0 x1 x2 x3 x4 x5 y0 y1 y2 y3 y4 y5; have ST := Lib.hid hx; clear hx; obtain ⟨x0, x1, x2, x3, x4, x5⟩ := box_cells ST.out.boxX; obtain ⟨y0, y1, y2, y3, y4, y5⟩ := box_cells ST.out.boxY)
      | (go_at_call 13; with_reducible refine (O1.out _ ST.out).mono ?_; rintro r w3 ⟨rfl, hx⟩; clear ST x0 x1 x2 x3 x4 x5 y0 y1 y2 y3 y4 y5; have ST := Lib.hid hx; clear hx; obtain ⟨x0, x1, x2, x3, x4, x5⟩ := box_cells ST.out.boxX; obtain ⟨y0, y1, y2, y3, y4, y5⟩ := box_cells ST.out.boxY)
      | (go_at_call 13; with_reducible refine (T2.out _ ST.out).mono ?_; rintro r w3 ⟨rfl, hx⟩; clear ST x0 x1 x2 x3 x4 x5 y0 y1 y2 y3 y4 y5; have ST := Lib.hid hx; clear hx; obtain ⟨x0, x1, x2, x3, x4, x5⟩ := box_cells ST.out.boxX; obtain ⟨y0, y1, y2, y3, y4, y5⟩ := box_cells ST.out.boxY)
      | (go_at_call 13; with_reducible refine (O2.out _ ST.out).mono ?_; rintro r w3 ⟨rfl, hx⟩; clear ST x0 x1 x2 x3 x4 x5 y0 y1 y2 y3 y4 y5; have ST := Lib.hid hx; clear hx; obtain ⟨x0, x1, x2, x3, x4, x5⟩ := box_cells ST.out.boxX; obtain ⟨y0, y1, y2, y3, y4, y5⟩ := box_cells ST.out.boxY)
      | (go_at_call 15; with_reducible refine (P0.out _ ST.out).mono ?_; rintro r w3 ⟨rfl, hx⟩; clear ST x0 x1 x2 x3 x4 x5 y0 y1 y2 y3 y4 y5; have ST := Lib.hid hx; clear hx; obtain ⟨x0, x1, x2, x3, x4, x5⟩ := box_cells ST.out.boxX; obtain ⟨y0, y1, y2, y3, y4, y5⟩ := box_cells ST.out.boxY)
      | (go_at_call 17; with_reducible refine (D1.out _ ST.out).mono ?_; rintro r w3 ⟨rfl, hx⟩; clear ST x0 x1 x2 x3 x4 x5 y0 y1 y2 y3 y4 y5; have ST := Lib.hid hx; clear hx; obtain ⟨x0, x1, x2, x3, x4, x5⟩ := box_cells ST.out.boxX; obtain ⟨y0, y1, y2, y3, y4, y5⟩ := box_cells ST.out.boxY)
      | (go_at_call 19; with_reducible refine (A0.out _ ST.out).mono ?_; rintro r w3 ⟨_, _, rfl, hx⟩; clear ST x0 x1 x2 x3 x4 x5 y0 y1 y2 y3 y4 y5; have ST := Lib.hid hx; clear hx; obtain ⟨x0, x1, x2, x3, x4, x5⟩ := box_cells ST.out.boxX; obtain ⟨y0, y1, y2, y3, y4, y5⟩ := box_cells ST.out.boxY)
      | (go_at_call 19; with_reducible refine (A2.out _ ST.out).mono ?_; rintro r w3 ⟨_, _, rfl, hx⟩; clear ST x0 x1 x2 x3 x4 x5 y0 y1 y2 y3 y4 y5; have ST := Lib.hid hx; clear hx; obtain ⟨x0, x1, x2, x3, x4, x5⟩ := box_cells ST.out.boxX; obtain ⟨y0, y1, y2, y3, y4, y5⟩ := box_cells ST.out.boxY)
)
    go_ret
    exact ⟨rfl, ST.out.below⟩
  have hbt : (bT = true ∧ p = false) ∨ (bT = false ∧ p = true) ∨ (bT = false ∧ p = false) := by
    have := HTP.out
    cases bT <;> cases p <;> simp_all
  generalize S.length = n at *
  have hn1 : bT = true → n = m + 1 := fun h => by have := HM1.out h; omega
  have hn2 : bT = false → n = m := HM2.out
  have hmm : m ≤ 1048576 := by
    have := HLEN.out
    cases bT
    · have := hn2 rfl; omega
    · have := hn1 rfl; omega
  have HN1 := Lib.hid hn1; have HN2 := Lib.hid hn2
  clear hn1 hn2 HM1 HM2 HLEN HTP
  have hne : ∀ W, _ := fun W => tuple_neqB t o W
  have heq : ∀ W, _ := fun W => tuple_eqlB t o W
  unfold LTuple.val at hne heq
  have htt : t ≠ o → bO1 = bO ∧ bO2 = bO := HO12.out
  have HTT := Lib.hid htt; clear htt HO12
  by_cases hto : t = o
  · rw [show decide (t = o) = true by simp [hto]] at heq
    rw [show (!decide (t = o)) = false by simp [hto]] at hne
    clear hto HTT
    rcases hbt with ⟨rfl, rfl⟩ | ⟨rfl, rfl⟩ | ⟨rfl, rfl⟩
    · obtain rfl := HN1.out rfl
      clear HN1 HN2
      go_wp2_with (first
          | (go_at_call 9; with_reducible refine (b2_awake ST.out).mono ?_; rintro r w3 ⟨rfl, hx⟩; clear ST x0 x1 x2 x3 x4 x5 y0 y1 y2 y3 y4 y5; have ST := Lib.hid hx; clear hx; obtain ⟨x0, x1, x2, x3, x4, x5⟩ := box_cells ST.out.boxX; obtain ⟨y0, y1, y2, y3, y4, y5⟩ := box_cells ST.out.boxY)
          | (go_at_call 10; with_reducible refine (C0.out _ ST.out).mono ?_; rintro r w3 ⟨rfl, hx⟩; clear ST x0 x1 x2 x3 x4 x5 y0 y1 y2 y3 y4 y5; have ST := Lib.hid hx; clear hx; obtain ⟨x0, x1, x2, x3, x4, x5⟩ := box_cells ST.out.boxX; obtain ⟨y0, y1, y2, y3, y4, y5⟩ := box_cells ST.out.boxY)
          | (go_at_call 10; with_reducible refine (C1.out _ ST.out).mono ?_; rintro r w3 ⟨rfl, hx⟩; clear ST x0 x1 x2 x3 x4 x5 y0 y1 y2 y3 y4 y5; have ST := Lib.hid hx; clear hx; obtain ⟨x0, x1, x2, x3, x4, x5⟩ := box_cells ST.out.boxX; obtain ⟨y0, y1, y2, y3, y4, y5⟩ := box_cells ST.out.boxY)
          | (go_at_call 13; with_reducible refine (T0.out _ ST.out).mono ?_; rintro r w3 ⟨rfl, hx⟩; clear ST x0 x1 x2 x3 x4 x5 y0 y1 y2 y3 y4 y5; have ST := Lib.hid hx; clear hx; obtain ⟨x0, x1, x2, x3, x4, x5⟩ := box_cells ST.out.boxX; obtain ⟨y0, y1, y2, y3, y4, y5⟩ := box_cells ST.out.boxY)
          | (go_at_call 13; with_reducible refine (O0.out _ ST.out).mono ?_; rintro r w3 ⟨rfl, hx⟩; clear ST x0 x1 x2 x3 x4 x5 y0 y1 y2 y3 y4 y5; have ST := Lib.hid hx; clear hx; obtain ⟨x0, x1, x2, x3, x4, x5⟩ := box_cells ST.out.boxX; obtain ⟨y0, y1, y2, y3, y4, y5⟩ := box_cells ST.out.boxY)
          | (go_at_call 13; with_reducible refine (T1.out _ ST.out).mono ?_; rintro r w3 ⟨rfl, hx⟩; clear ST x0 x1 x2 x3 x4 x5 y0 y1 y2 y3 y4 y5; have ST := Lib.hid hx; clear hx; obtain ⟨x0, x1, x2, x3, x4, x5⟩ := box_cells ST.out.boxX; obtain ⟨y0, y1, y2, y3, y4, y5⟩ := box_cells ST.out.boxY)
          | (go_at_call 13; with_reducible refine (O1.out _ ST.out).mono ?_; rintro r w3 ⟨rfl, hx⟩; clear ST x0 x1 x2 x3 x4 x5 y0 y1 y2 y3 y4 y5; have ST := Lib.hid hx; clear hx; obtain ⟨x0, x1, x2, x3, x4, x5⟩ := box_cells ST.out.boxX; obtain ⟨y0, y1, y2, y3, y4, y5⟩ := box_cells ST.out.boxY)
          | (go_at_call 13; with_reducible refine (T2.out _ ST.out).mono ?_; rintro r w3 ⟨rfl, hx⟩; clear ST x0 x1 x2 x3 x4 x5 y0 y1 y2 y3 y4 y5; have ST := Lib.hid hx; clear hx; obtain ⟨x0, x1, x2, x3, x4, x5⟩ := box_cells ST.out.boxX; obtain ⟨y0, y1, y2, y3, y4, y5⟩ := box_cells ST.out.boxY)
          | (go_at_call 13; with_reducible refine (O2.out _ ST.out).mono ?_; rintro r w3 ⟨rfl, hx⟩; clear ST x0 x1 x2 x3 x4 x5 y0 y1 y2 y3 y4 y5; have ST := Lib.hid hx; clear hx; obtain ⟨x0, x1, x2, x3, x4, x5⟩ := box_cells ST.out.boxX; obtain ⟨y0, y1, y2, y3, y4, y5⟩ := box_cells ST.out.boxY)
          | (go_at_call 15; with_reducible refine (P0.out _ ST.out).mono ?_; rintro r w3 ⟨rfl, hx⟩; clear ST x0 x1 x2 x3 x4 x5 y0 y1 y2 y3 y4 y5; have ST := Lib.hid hx; clear hx; obtain ⟨x0, x1, x2, x3, x4, x5⟩ := box_cells ST.out.boxX; obtain ⟨y0, y1, y2, y3, y4, y5⟩ := box_cells ST.out.boxY)
          | (go_at_call 17; with_reducible refine (D1.out _ ST.out).mono ?_; rintro r w3 ⟨rfl, hx⟩; clear ST x0 x1 x2 x3 x4 x5 y0 y1 y2 y3 y4 y5; have ST := Lib.hid hx; clear hx; obtain ⟨x0, x1, x2, x3, x4, x5⟩ := box_cells ST.out.boxX; obtain ⟨y0, y1, y2, y3, y4, y5⟩ := box_cells ST.out.boxY)
          | (go_at_call 19; with_reducible refine (A0.out _ ST.out).mono ?_; rintro r w3 ⟨_, _, rfl, hx⟩; clear ST x0 x1 x2 x3 x4 x5 y0 y1 y2 y3 y4 y5; have ST := Lib.hid hx; clear hx; obtain ⟨x0, x1, x2, x3, x4, x5⟩ := box_cells ST.out.boxX; obtain ⟨y0, y1, y2, y3, y4, y5⟩ := box_cells ST.out.boxY)
          | (go_at_call 19; with_reducible refine (A2.out _ ST.out).mono ?_; rintro r w3 ⟨_, _, rfl, hx⟩; clear ST x0 x1 x2 x3 x4 x5 y0 y1 y2 y3 y4 y5; have ST := Lib.hid hx; clear hx; obtain ⟨x0, x1, x2, x3, x4, x5⟩ := box_cells ST.out.boxX; obtain ⟨y0, y1, y2, y3, y4, y5⟩ := box_cells ST.out.boxY)
    )
      go_ret
      exact ⟨rfl, ST.out.below⟩
    · obtain rfl := HN2.out rfl
      clear HN1 HN2
      go_wp2_with (first
          | (go_at_call 9; with_reducible refine (b2_awake ST.out).mono ?_; rintro r w3 ⟨rfl, hx⟩; clear ST x0 x1 x2 x3 x4 x5 y0 y1 y2 y3 y4 y5; have ST := Lib.hid hx; clear hx; obtain ⟨x0, x1, x2, x3, x4, x5⟩ := box_cells ST.out.boxX; obtain ⟨y0, y1, y2, y3, y4, y5⟩ := box_cells ST.out.boxY)
          | (go_at_call 10; with_reducible refine (C0.out _ ST.out).mono ?_; rintro r w3 ⟨rfl, hx⟩; clear ST x0 x1 x2 x3 x4 x5 y0 y1 y2 y3 y4 y5; have ST := Lib.hid hx; clear hx; obtain ⟨x0, x1, x2, x3, x4, x5⟩ := box_cells ST.out.boxX; obtain ⟨y0, y1, y2, y3, y4, y5⟩ := box_cells ST.out.boxY)
          | (go_at_call 10; with_reducible refine (C1.out _ ST.out).mono ?_; rintro r w3 ⟨rfl, hx⟩; clear ST x0 x1 x2 x3 x4 x5 y0 y1 y2 y3 y4 y5; have ST := Lib.hid hx; clear hx; obtain ⟨x0, x1, x2, x3, x4, x5⟩ := box_cells ST.out.boxX; obtain ⟨y0, y1, y2, y3, y4, y5⟩ := box_cells ST.out.boxY)
          | (go_at_call 13; with_reducible refine (T0.out _ ST.out).mono ?_; rintro r w3 ⟨rfl, hx⟩; clear ST x0 x1 x2 x3 x4 x5 y0 y1 y2 y3 y4 y5; have ST := Lib.hid hx; clear hx; obtain ⟨x0, x1, x2, x3, x4, x5⟩ := box_cells ST.out.boxX; obtain ⟨y0, y1, y2, y3, y4, y5⟩ := box_cells ST.out.boxY)
          | (go_at_call 13; with_reducible refine (O0.out _ ST.out).mono ?_; rintro r w3 ⟨rfl, hx⟩; clear ST x0 x1 x2 x3 x4 x5 y0 y1 y2 y3 y4 y5; have ST := Lib.hid hx; clear hx; obtain ⟨x0, x1, x2, x3, x4, x5⟩ := box_cells ST.out.boxX; obtain ⟨y0, y1, y2, y3, y4, y5⟩ := box_cells ST.out.boxY)
          | (go_at_call 13; with_reducible refine (T1.out _ ST.out).mono ?_; rintro r w3 ⟨rfl, hx⟩; clear ST x0 x1 x2 x3 x4 x5 y0 y1 y2 y3 y4 y5; have ST := Lib.hid hx; clear hx; obtain ⟨x0, x1, x2, x3, x4, x5⟩ := box_cells ST.out.boxX; obtain ⟨y0, y1, y2, y3, y4, y5⟩ := box_cells ST.out.boxY)
          | (go_at_call 13; with_reducible refine (O1.out _ ST.out).mono ?_; rintro r w3 ⟨rfl, hx⟩; clear ST x0 x1 x2 x3 x4 x5 y0 y1 y2 y3 y4 y5; have ST := Lib.hid hx; clear hx; obtain ⟨x0, x1, x2, x3, x4, x5⟩ := box_cells ST.out.boxX; obtain ⟨y0, y1, y2, y3, y4, y5⟩ := box_cells ST.out.boxY)
          | (go_at_call 13; with_reducible refine (T2.out _ ST.out).mono ?_; rintro r w3 ⟨rfl, hx⟩; clear ST x0 x1 x2 x3 x4 x5 y0 y1 y2 y3 y4 y5; have ST := Lib.hid hx; clear hx; obtain ⟨x0, x1, x2, x3, x4, x5⟩ := box_cells ST.out.boxX; obtain ⟨y0, y1, y2, y3, y4, y5⟩ := box_cells ST.out.boxY)
          | (go_at_call 13; with_reducible refine (O2.out _ ST.out).mono ?_; rintro r w3 ⟨rfl, hx⟩; clear ST x0 x1 x2 x3 x4 x5 y0 y1 y2 y3 y4 y5; have ST := Lib.hid hx; clear hx; obtain ⟨x0, x1, x2, x3, x4, x5⟩ := box_cells ST.out.boxX; obtain ⟨y0, y1, y2, y3, y4, y5⟩ := box_cells ST.out.boxY)
          | (go_at_call 15; with_reducible refine (P0.out _ ST.out).mono ?_; rintro r w3 ⟨rfl, hx⟩; clear ST x0 x1 x2 x3 x4 x5 y0 y1 y2 y3 y4 y5; have ST := Lib.hid hx; clear hx; obtain ⟨x0, x1, x2, x3, x4, x5⟩ := box_cells ST.out.boxX; obtain ⟨y0, y1, y2, y3, y4, y5⟩ := box_cells ST.out.boxY)
          | (go_at_call 17; with_reducible refine (D1.out _ ST.out).mono ?_; rintro r w3 ⟨rfl, hx⟩; clear ST x0 x1 x2 x3 x4 x5 y0 y1 y2 y3 y4 y5; have ST := Lib.hid hx; clear hx; obtain ⟨x0, x1, x2, x3, x4, x5⟩ := box_cells ST.out.boxX; obtain ⟨y0, y1, y2, y3, y4, y5⟩ := box_cells ST.out.boxY)
          | (go_at_call 19; with_reducible refine (A0.out _ ST.out).mono ?_; rintro r w3 ⟨_, _, rfl, hx⟩; clear ST x0 x1 x2 x3 x4 x5 y0 y1 y2 y3 y4 y5; have ST := Lib.hid hx; clear hx; obtain ⟨x0, x1, x2, x3, x4, x5⟩ := box_cells ST.out.boxX; obtain ⟨y0, y1, y2, y3, y4, y5⟩ := box_cells ST.out.boxY)
          | (go_at_call 19; with_reducible refine (A2.out _ ST.out).mono ?_; rintro r w3 ⟨_, _, rfl, hx⟩; clear ST x0 x1 x2 x3 x4 x5 y0 y1 y2 y3 y4 y5; have ST := Lib.hid hx; clear hx; obtain ⟨x0, x1, x2, x3, x4, x5⟩ := box_cells ST.out.boxX; obtain ⟨y0, y1, y2, y3, y4, y5⟩ := box_cells ST.out.boxY)
    )
      go_ret
      exact ⟨rfl, ST.out.below⟩
    · obtain rfl := HN2.out rfl
      clear HN1 HN2
      go_wp2_with (first
          | (go_at_call 9; with_reducible refine (b2_awake ST.out).mono ?_; rintro r w3 ⟨rfl, hx⟩; clear ST x0 x1 x2 x3 x4 x5 y0 y1 y2 y3 y4 y5; have ST := Lib.hid hx; clear hx; obtain ⟨x0, x1, x2, x3, x4, x5⟩ := box_cells ST.out.boxX; obtain ⟨y0, y1, y2, y3, y4, y5⟩ := box_cells ST.out.boxY)
          | (go_at_call 10; with_reducible refine (C0.out _ ST.out).mono ?_; rintro r w3 ⟨rfl, hx⟩; clear ST x0 x1 x2 x3 x4 x5 y0 y1 y2 y3 y4 y5; have ST := Lib.hid hx; clear hx; obtain ⟨x0, x1, x2, x3, x4, x5⟩ := box_cells ST.out.boxX; obtain ⟨y0, y1, y2, y3, y4, y5⟩ := box_cells ST.out.boxY)
          | (go_at_call 10; with_reducible refine (C1.out _ ST.out).mono ?_; rintro r w3 ⟨rfl, hx⟩; clear ST x0 x1 x2 x3 x4 x5 y0 y1 y2 y3 y4 y5; have ST := Lib.hid hx; clear hx; obtain ⟨x0, x1, x2, x3, x4, x5⟩ := box_cells ST.out.boxX; obtain ⟨y0, y1, y2, y3, y4, y5⟩ := box_cells ST.out.boxY)
          | (go_at_call 13; with_reducible refine (T0.out _ ST.out).mono ?_; rintro r w3 ⟨rfl, hx⟩; clear ST x0 x1 x2 x3 x4 x5 y0 y1 y2 y3 y4 y5; have ST := Lib.hid hx; clear hx; obtain ⟨x0, x1, x2, x3, x4, x5⟩ := box_cells ST.out.boxX; obtain ⟨y0, y1, y2, y3, y4, y5⟩ := box_cells ST.out.boxY)
          | (go_at_call 13; with_reducible refine (O0.out _ ST.out).mono ?_; rintro r w3 ⟨rfl, hx⟩; clear ST x0 x1 x2 x3 x4 x5 y0 y1 y2 y3 y4 y5; have ST := Lib.hid hx; clear hx; obtain ⟨x0, x1, x2, x3, x4, x5⟩ := box_cells ST.out.boxX; obtain ⟨y0, y1, y2, y3, y4, y5⟩ := box_cells ST.out.boxY)
          | (go_at_call 13; with_reducible refine (T1.out _ ST.out).mono ?_; rintro r w3 ⟨rfl, hx⟩; clear ST x0 x1 x2 x3 x4 x5 y0 y1 y2 y3 y4 y5; have ST := Lib.hid hx; clear hx; obtain ⟨x0, x1, x2, x3, x4, x5⟩ := box_cells ST.out.boxX; obtain ⟨y0, y1, y2, y3, y4, y5⟩ := box_cells ST.out.boxY)
          | (go_at_call 13; with_reducible refine (O1.out _ ST.out).mono ?_; rintro r w3 ⟨rfl, hx⟩; clear ST x0 x1 x2 x3 x4 x5 y0 y1 y2 y3 y4 y5; have ST := Lib.hid hx; clear hx; obtain ⟨x0, x1, x2, x3, x4, x5⟩ := box_cells ST.out.boxX; obtain ⟨y0, y1, y2, y3, y4, y5⟩ := box_cells ST.out.boxY)
          | (go_at_call 13; with_reducible refine (T2.out _ ST.out).mono ?_; rintro r w3 ⟨rfl, hx⟩; clear ST x0 x1 x2 x3 x4 x5 y0 y1 y2 y3 y4 y5; have ST := Lib.hid hx; clear hx; obtain ⟨x0, x1, x2, x3, x4, x5⟩ := box_cells ST.out.boxX; obtain ⟨y0, y1, y2, y3, y4, y5⟩ := box_cells ST.out.boxY)
          | (go_at_call 13; with_reducible refine (O2.out _ ST.out).mono ?_; rintro r w3 ⟨rfl, hx⟩; clear ST x0 x1 x2 x3 x4 x5 y0 y1 y2 y3 y4 y5; have ST := Lib.hid hx; clear hx; obtain ⟨x0, x1, x2, x3, x4, x5⟩ := box_cells ST.out.boxX; obtain ⟨y0, y1, y2, y3, y4, y5⟩ := box_cells ST.out.boxY)
          | (go_at_call 15; with_reducible refine (P0.out _ ST.out).mono ?_; rintro r w3 ⟨rfl, hx⟩; clear ST x0 x1 x2 x3 x4 x5 y0 y1 y2 y3 y4 y5; have ST := Lib.hid hx; clear hx; obtain ⟨x0, x1, x2, x3, x4, x5⟩ := box_cells ST.out.boxX; obtain ⟨y0, y1, y2, y3, y4, y5⟩ := box_cells ST.out.boxY)
          | (go_at_call 17; with_reducible refine (D1.out _ ST.out).mono ?_; rintro r w3 ⟨rfl, hx⟩; clear ST x0 x1 x2 x3 x4 x5 y0 y1 y2 y3 y4 y5; have ST := Lib.hid hx; clear hx; obtain ⟨x0, x1, x2, x3, x4, x5⟩ := box_cells ST.out.boxX; obtain ⟨y0, y1, y2, y3, y4, y5⟩ := box_cells ST.out.boxY)
          | (go_at_call 19; with_reducible refine (A0.out _ ST.out).mono ?_; rintro r w3 ⟨_, _, rfl, hx⟩; clear ST x0 x1 x2 x3 x4 x5 y0 y1 y2 y3 y4 y5; have ST := Lib.hid hx; clear hx; obtain ⟨x0, x1, x2, x3, x4, x5⟩ := box_cells ST.out.boxX; obtain ⟨y0, y1, y2, y3, y4, y5⟩ := box_cells ST.out.boxY)
          | (go_at_call 19; with_reducible refine (A2.out _ ST.out).mono ?_; rintro r w3 ⟨_, _, rfl, hx⟩; clear ST x0 x1 x2 x3 x4 x5 y0 y1 y2 y3 y4 y5; have ST := Lib.hid hx; clear hx; obtain ⟨x0, x1, x2, x3, x4, x5⟩ := box_cells ST.out.boxX; obtain ⟨y0, y1, y2, y3, y4, y5⟩ := box_cells ST.out.boxY)
    )
      go_ret
      exact ⟨rfl, ST.out.below⟩
  · rw [show decide (t = o) = false by simp [hto]] at heq
    rw [show (!decide (t = o)) = true by simp [hto]] at hne
    obtain ⟨rfl, rfl⟩ := HTT.out hto
    clear hto HTT
    rcases hbt with ⟨rfl, rfl⟩ | ⟨rfl, rfl⟩ | ⟨rfl, rfl⟩
    · obtain rfl := HN1.out rfl
      clear HN1 HN2
      go_wp2_with (first
          | (go_at_call 9; with_reducible refine (b2_awake ST.out).mono ?_; rintro r w3 ⟨rfl, hx⟩; clear ST x0 x1 x2 x3 x4 x5 y0 y1 y2 y3 y4 y5; have ST := Lib.hid hx; clear hx; obtain ⟨x0, x1, x2, x3, x4, x5⟩ := box_cells ST.out.boxX; obtain ⟨y0, y1, y2, y3, y4, y5⟩ := box_cells ST.out.boxY)
          | (go_at_call 10; with_reducible refine (C0.out _ ST.out).mono ?_; rintro r w3 ⟨rfl, hx⟩; clear ST x0 x1 x2 x3 x4 x5 y0 y1 y2 y3 y4 y5; have ST := Lib.hid hx; clear hx; obtain ⟨x0, x1, x2, x3, x4, x5⟩ := box_cells ST.out.boxX; obtain ⟨y0, y1, y2, y3, y4, y5⟩ := box_cells ST.out.boxY)
          | (go_at_call 10; with_reducible refine (C1.out _ ST.out).mono ?_; rintro r w3 ⟨rfl, hx⟩; clear ST x0 x1 x2 x3 x4 x5 y0 y1 y2 y3 y4 y5; have ST := Lib.hid hx; clear hx; obtain ⟨x0, x1, x2, x3, x4, x5⟩ := box_cells ST.out.boxX; obtain ⟨y0, y1, y2, y3, y4, y5⟩ := box_cells ST.out.boxY)
          | (go_at_call 13; with_reducible refine (T0.out _ ST.out).mono ?_; rintro r w3 ⟨rfl, hx⟩; clear ST x0 x1 x2 x3 x4 x5 y0 y1 y2 y3 y4 y5; have ST := Lib.hid hx; clear hx; obtain ⟨x0, x1, x2, x3, x4, x5⟩ := box_cells ST.out.boxX; obtain ⟨y0, y1, y2, y3, y4, y5⟩ := box_cells ST.out.boxY)
          | (go_at_call 13; with_reducible refine (O0.out _ ST.out).mono ?_; rintro r w3 ⟨rfl, hx⟩; clear ST x0 x1 x2 x3 x4 x5 y0 y1 y2 y3 y4 y5; have ST := Lib.hid hx; clear hx; obtain ⟨x0, x1, x2, x3, x4, x5⟩ := box_cells ST.out.boxX; obtain ⟨y0, y1, y2, y3, y4, y5⟩ := box_cells ST.out.boxY)
          | (go_at_call 13; with_reducible refine (T1.out _ ST.out).mono ?_; rintro r w3 ⟨rfl, hx⟩; clear ST x0 x1 x2 x3 x4 x5 y0 y1 y2 y3 y4 y5; have ST := Lib.hid hx; clear hx; obtain ⟨x0, x1, x2, x3, x4, x5⟩ := box_cells ST.out.boxX; obtain ⟨y0, y1, y2, y3, y4, y5⟩ := box_cells ST.out.boxY)
          | (go_at_call 13; with_reducible refine (O1.out _ ST.out).mono ?_; rintro r w3 ⟨rfl, hx⟩; clear ST x0 x1 x2 x3 x4 x5 y0 y1 y2 y3 y4 y5; have ST := Lib.hid hx; clear hx; obtain ⟨x0, x1, x2, x3, x4, x5⟩ := box_cells ST.out.boxX; obtain ⟨y0, y1, y2, y3, y4, y5⟩ := box_cells ST.out.boxY)
          | (go_at_call 13; with_reducible refine (T2.out _ ST.out).mono ?_; rintro r w3 ⟨rfl, hx⟩; clear ST x0 x1 x2 x3 x4 x5 y0 y1 y2 y3 y4 y5; have ST := Lib.hid hx; clear hx; obtain ⟨x0, x1, x2, x3, x4, x5⟩ := box_cells ST.out.boxX; obtain ⟨y0, y1, y2, y3, y4, y5⟩ := box_cells ST.out.boxY)
          | (go_at_call 13; with_reducible refine (O2.out _ ST.out).mono ?_; rintro r w3 ⟨rfl, hx⟩; clear ST x0 x1 x2 x3 x4 x5 y0 y1 y2 y3 y4 y5; have ST := Lib.hid hx; clear hx; obtain ⟨x0, x1, x2, x3, x4, x5⟩ := box_cells ST.out.boxX; obtain ⟨y0, y1, y2, y3, y4, y5⟩ := box_cells ST.out.boxY)
          | (go_at_call 15; with_reducible refine (P0.out _ ST.out).mono ?_; rintro r w3 ⟨rfl, hx⟩; clear ST x0 x1 x2 x3 x4 x5 y0 y1 y2 y3 y4 y5; have ST := Lib.hid hx; clear hx; obtain ⟨x0, x1, x2, x3, x4, x5⟩ := box_cells ST.out.boxX; obtain ⟨y0, y1, y2, y3, y4, y5⟩ := box_cells ST.out.boxY)
          | (go_at_call 17; with_reducible refine (D1.out _ ST.out).mono ?_; rintro r w3 ⟨rfl, hx⟩; clear ST x0 x1 x2 x3 x4 x5 y0 y1 y2 y3 y4 y5; have ST := Lib.hid hx; clear hx; obtain ⟨x0, x1, x2, x3, x4, x5⟩ := box_cells ST.out.boxX; obtain ⟨y0, y1, y2, y3, y4, y5⟩ := box_cells ST.out.boxY)
          | (go_at_call 19; with_reducible refine (A0.out _ ST.out).mono ?_; rintro r w3 ⟨_, _, rfl, hx⟩; clear ST x0 x1 x2 x3 x4 x5 y0 y1 y2 y3 y4 y5; have ST := Lib.hid hx; clear hx; obtain ⟨x0, x1, x2, x3, x4, x5⟩ := box_cells ST.out.boxX; obtain ⟨y0, y1, y2, y3, y4, y5⟩ := box_cells ST.out.boxY)
          | (go_at_call 19; with_reducible refine (A2.out _ ST.out).mono ?_; rintro r w3 ⟨_, _, rfl, hx⟩; clear ST x0 x1 x2 x3 x4 x5 y0 y1 y2 y3 y4 y5; have ST := Lib.hid hx; clear hx; obtain ⟨x0, x1, x2, x3, x4, x5⟩ := box_cells ST.out.boxX; obtain ⟨y0, y1, y2, y3, y4, y5⟩ := box_cells ST.out.boxY)
    )
      go_ret
      exact ⟨rfl, ST.out.below⟩
    · obtain rfl := HN2.out rfl
      clear HN1 HN2
      go_wp2_with (first
          | (go_at_call 9; with_reducible refine (b2_awake ST.out).mono ?_; rintro r w3 ⟨rfl, hx⟩; clear ST x0 x1 x2 x3 x4 x5 y0 y1 y2 y3 y4 y5; have ST := Lib.hid hx; clear hx; obtain ⟨x0, x1, x2, x3, x4, x5⟩ := box_cells ST.out.boxX; obtain ⟨y0, y1, y2, y3, y4, y5⟩ := box_cells ST.out.boxY)
          | (go_at_call 10; with_reducible refine (C0.out _ ST.out).mono ?_; rintro r w3 ⟨rfl, hx⟩; clear ST x0 x1 x2 x3 x4 x5 y0 y1 y2 y3 y4 y5; have ST := Lib.hid hx; clear hx; obtain ⟨x0, x1, x2, x3, x4, x5⟩ := box_cells ST.out.boxX; obtain ⟨y0, y1, y2, y3, y4, y5⟩ := box_cells ST.out.boxY)
          | (go_at_call 10; with_reducible refine (C1.out _ ST.out).mono ?_; rintro r w3 ⟨rfl, hx⟩; clear ST x0 x1 x2 x3 x4 x5 y0 y1 y2 y3 y4 y5; have ST := Lib.hid hx; clear hx; obtain ⟨x0, x1, x2, x3, x4, x5⟩ := box_cells ST.out.boxX; obtain ⟨y0, y1, y2, y3, y4, y5⟩ := box_cells ST.out.boxY)
          | (go_at_call 13; with_reducible refine (T0.out _ ST.out).mono ?_; rintro r w3 ⟨rfl, hx⟩; clear ST x0 x1 x2 x3 x4 x5 y0 y1 y2 y3 y4 y5; have ST := Lib.hid hx; clear hx; obtain ⟨x0, x1, x2, x3, x4, x5⟩ := box_cells ST.out.boxX; obtain ⟨y0, y1, y2, y3, y4, y5⟩ := box_cells ST.out.boxY)
          | (go_at_call 13; with_reducible refine (O0.out _ ST.out).mono ?_; rintro r w3 ⟨rfl, hx⟩; clear ST x0 x1 x2 x3 x4 x5 y0 y1 y2 y3 y4 y5; have ST := Lib.hid hx; clear hx; obtain ⟨x0, x1, x2, x3, x4, x5⟩ := box_cells ST.out.boxX; obtain ⟨y0, y1, y2, y3, y4, y5⟩ := box_cells ST.out.boxY)
          | (go_at_call 13; with_reducible refine (T1.out _ ST.out).mono ?_; rintro r w3 ⟨rfl, hx⟩; clear ST x0 x1 x2 x3 x4 x5 y0 y1 y2 y3 y4 y5; have ST := Lib.hid hx; clear hx; obtain ⟨x0, x1, x2, x3, x4, x5⟩ := box_cells ST.out.boxX; obtain ⟨y0, y1, y2, y3, y4, y5⟩ := box_cells ST.out.boxY)
          | (go_at_call 13; with_reducible refine (O1.out _ ST.out).mono ?_; rintro r w3 ⟨rfl, hx⟩; clear ST x0 x1 x2 x3 x4 x5 y0 y1 y2 y3 y4 y5; have ST := Lib.hid hx; clear hx; obtain ⟨x0, x1, x2, x3, x4, x5⟩ := box_cells ST.out.boxX; obtain ⟨y0, y1, y2, y3, y4, y5⟩ := box_cells ST.out.boxY)
          | (go_at_call 13; with_reducible refine (T2.out _ ST.out).mono ?_; rintro r w3 ⟨rfl, hx⟩; clear ST x0 x1 x2 x3 x4 x5 y0 y1 y2 y3 y4 y5; have ST := Lib.hid hx; clear hx; obtain ⟨x0, x1, x2, x3, x4, x5⟩ := box_cells ST.out.boxX; obtain ⟨y0, y1, y2, y3, y4, y5⟩ := box_cells ST.out.boxY)
          | (go_at_call 13; with_reducible refine (O2.out _ ST.out).mono ?_; rintro r w3 ⟨rfl, hx⟩; clear ST x0 x1 x2 x3 x4 x5 y0 y1 y2 y3 y4 y5; have ST := Lib.hid hx; clear hx; obtain ⟨x0, x1, x2, x3, x4, x5⟩ := box_cells ST.out.boxX; obtain ⟨y0, y1, y2, y3, y4, y5⟩ := box_cells ST.out.boxY)
          | (go_at_call 15; with_reducible refine (P0.out _ ST.out).mono ?_; rintro r w3 ⟨rfl, hx⟩; clear ST x0 x1 x2 x3 x4 x5 y0 y1 y2 y3 y4 y5; have ST := Lib.hid hx; clear hx; obtain ⟨x0, x1, x2, x3, x4, x5⟩ := box_cells ST.out.boxX; obtain ⟨y0, y1, y2, y3, y4, y5⟩ := box_cells ST.out.boxY)
          | (go_at_call 17; with_reducible refine (D1.out _ ST.out).mono ?_; rintro r w3 ⟨rfl, hx⟩; clear ST x0 x1 x2 x3 x4 x5 y0 y1 y2 y3 y4 y5; have ST := Lib.hid hx; clear hx; obtain ⟨x0, x1, x2, x3, x4, x5⟩ := box_cells ST.out.boxX; obtain ⟨y0, y1, y2, y3, y4, y5⟩ := box_cells ST.out.boxY)
          | (go_at_call 19; with_reducible refine (A0.out _ ST.out).mono ?_; rintro r w3 ⟨_, _, rfl, hx⟩; clear ST x0 x1 x2 x3 x4 x5 y0 y1 y2 y3 y4 y5; have ST := Lib.hid hx; clear hx; obtain ⟨x0, x1, x2, x3, x4, x5⟩ := box_cells ST.out.boxX; obtain ⟨y0, y1, y2, y3, y4, y5⟩ := box_cells ST.out.boxY)
          | (go_at_call 19; with_reducible refine (A2.out _ ST.out).mono ?_; rintro r w3 ⟨_, _, rfl, hx⟩; clear ST x0 x1 x2 x3 x4 x5 y0 y1 y2 y3 y4 y5; have ST := Lib.hid hx; clear hx; obtain ⟨x0, x1, x2, x3, x4, x5⟩ := box_cells ST.out.boxX; obtain ⟨y0, y1, y2, y3, y4, y5⟩ := box_cells ST.out.boxY)
    )
      go_ret
      exact ⟨rfl, ST.out.below⟩
    · obtain rfl := HN2.out rfl
      clear HN1 HN2
      go_wp2_with (first
          | (go_at_call 9; with_reducible refine (b2_awake ST.out).mono ?_; rintro r w3 ⟨rfl, hx⟩; clear ST x0 x1 x2 x3 x4 x5 y0 y1 y2 y3 y4 y5; have ST := Lib.hid hx; clear hx; obtain ⟨x0, x1, x2, x3, x4, x5⟩ := box_cells ST.out.boxX; obtain ⟨y0, y1, y2, y3, y4, y5⟩ := box_cells ST.out.boxY)
          | (go_at_call 10; with_reducible refine (C0.out _ ST.out).mono ?_; rintro r w3 ⟨rfl, hx⟩; clear ST x0 x1 x2 x3 x4 x5 y0 y1 y2 y3 y4 y5; have ST := Lib.hid hx; clear hx; obtain ⟨x0, x1, x2, x3, x4, x5⟩ := box_cells ST.out.boxX; obtain ⟨y0, y1, y2, y3, y4, y5⟩ := box_cells ST.out.boxY)
          | (go_at_call 10; with_reducible refine (C1.out _ ST.out).mono ?_; rintro r w3 ⟨rfl, hx⟩; clear ST x0 x1 x2 x3 x4 x5 y0 y1 y2 y3 y4 y5; have ST := Lib.hid hx; clear hx; obtain ⟨x0, x1, x2, x3, x4, x5⟩ := box_cells ST.out.boxX; obtain ⟨y0, y1, y2, y3, y4, y5⟩ := box_cells ST.out.boxY)
          | (go_at_call 13; with_reducible refine (T0.out _ ST.out).mono ?_; rintro r w3 ⟨rfl, hx⟩; clear ST x0 x1 x2 x3 x4 x5 y0 y1 y2 y3 y4 y5; have ST := Lib.hid hx; clear hx; obtain ⟨x0, x1, x2, x3, x4, x5⟩ := box_cells ST.out.boxX; obtain ⟨y0, y1, y2, y3, y4, y5⟩ := box_cells ST.out.boxY)
          | (go_at_call 13; with_reducible refine (O0.out _ ST.out).mono ?_; rintro r w3 ⟨rfl, hx⟩; clear ST x0 x1 x2 x3 x4 x5 y0 y1 y2 y3 y4 y5; have ST := Lib.hid hx; clear hx; obtain ⟨x0, x1, x2, x3, x4, x5⟩ := box_cells ST.out.boxX; obtain ⟨y0, y1, y2, y3, y4, y5⟩ := box_cells ST.out.boxY)
          | (go_at_call 13; with_reducible refine (T1.out _ ST.out).mono ?_; rintro r w3 ⟨rfl, hx⟩; clear ST x0 x1 x2 x3 x4 x5 y0 y1 y2 y3 y4 y5; have ST := Lib.hid hx; clear hx; obtain ⟨x0, x1, x2, x3, x4, x5⟩ := box_cells ST.out.boxX; obtain ⟨y0, y1, y2, y3, y4, y5⟩ := box_cells ST.out.boxY)
          | (go_at_call 13; with_reducible refine (O1.out _ ST.out).mono ?_; rintro r w3 ⟨rfl, hx⟩; clear ST x0 x1 x2 x3 x4 x5 y0 y1 y2 y3 y4 y5; have ST := Lib.hid hx; clear hx; obtain ⟨x0, x1, x2, x3, x4, x5⟩ := box_cells ST.out.boxX; obtain ⟨y0, y1, y2, y3, y4, y5⟩ := box_cells ST.out.boxY)
          | (go_at_call 13; with_reducible refine (T2.out _ ST.out).mono ?_; rintro r w3 ⟨rfl, hx⟩; clear ST x0 x1 x2 x3 x4 x5 y0 y1 y2 y3 y4 y5; have ST := Lib.hid hx; clear hx; obtain ⟨x0, x1, x2, x3, x4, x5⟩ := box_cells ST.out.boxX; obtain ⟨y0, y1, y2, y3, y4, y5⟩ := box_cells ST.out.boxY)
          | (go_at_call 13; with_reducible refine (O2.out _ ST.out).mono ?_; rintro r w3 ⟨rfl, hx⟩; clear ST x0 x1 x2 x3 x4 x5 y0 y1 y2 y3 y4 y5; have ST := Lib.hid hx; clear hx; obtain ⟨x0, x1, x2, x3, x4, x5⟩ := box_cells ST.out.boxX; obtain ⟨y0, y1, y2, y3, y4, y5⟩ := box_cells ST.out.boxY)
          | (go_at_call 15; with_reducible refine (P0.out _ ST.out).mono ?_; rintro r w3 ⟨rfl, hx⟩; clear ST x0 x1 x2 x3 x4 x5 y0 y1 y2 y3 y4 y5; have ST := Lib.hid hx; clear hx; obtain ⟨x0, x1, x2, x3, x4, x5⟩ := box_cells ST.out.boxX; obtain ⟨y0, y1, y2, y3, y4, y5⟩ := box_cells ST.out.boxY)
          | (go_at_call 17; with_reducible refine (D1.out _ ST.out).mono ?_; rintro r w3 ⟨rfl, hx⟩; clear ST x0 x1 x2 x3 x4 x5 y0 y1 y2 y3 y4 y5; have ST := Lib.hid hx; clear hx; obtain ⟨x0, x1, x2, x3, x4, x5⟩ := box_cells ST.out.boxX; obtain ⟨y0, y1, y2, y3, y4, y5⟩ := box_cells ST.out.boxY)
          | (go_at_call 19; with_reducible refine (A0.out _ ST.out).mono ?_; rintro r w3 ⟨_, _, rfl, hx⟩; clear ST x0 x1 x2 x3 x4 x5 y0 y1 y2 y3 y4 y5; have ST := Lib.hid hx; clear hx; obtain ⟨x0, x1, x2, x3, x4, x5⟩ := box_cells ST.out.boxX; obtain ⟨y0, y1, y2, y3, y4, y5⟩ := box_cells ST.out.boxY)
          | (go_at_call 19; with_reducible refine (A2.out _ ST.out).mono ?_; rintro r w3 ⟨_, _, rfl, hx⟩; clear ST x0 x1 x2 x3 x4 x5 y0 y1 y2 y3 y4 y5; have ST := Lib.hid hx; clear hx; obtain ⟨x0, x1, x2, x3, x4, x5⟩ := box_cells ST.out.boxX; obtain ⟨y0, y1, y2, y3, y4, y5⟩ := box_cells ST.out.boxY)
    )
      go_ret
      exact ⟨rfl, ST.out.below⟩
end Go.Proofs.Ytnfkjodiielidaa

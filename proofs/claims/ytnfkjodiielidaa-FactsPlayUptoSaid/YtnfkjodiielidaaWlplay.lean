/- FactsPlay: the walk. -/
import Derived.Test.YtnfkjodiielidaaWlusers
import Derived.Test.YtnfkjodiielidaaWsame
import Derived.Test.YtnfkjodiielidaaWrefnew
import Derived.Test.YtnfkjodiielidaaWrefdrop
namespace Go.Proofs.Ytnfkjodiielidaa
set_option linter.unusedVariables false
set_option linter.unusedSimpArgs false
open Go.RowKit

/-- One act. -/
structure LAct where
  kind : Int
  t : LTuple
def LAct.d (a : LAct) : List D := .int a.kind :: a.t.d
theorem RepD.acts {A : Nat → Prop} {w : World} {v : Value} {xs : List LAct} (h : RepD A w (.slice 7 (xs.map LAct.d)) v) :
    ∃ a c, v = .slice a xs.length c ∧ xs.length ≤ c ∧ xs.length ≤ 140737488355328 ∧ ∀ k (hk : k < xs.length), ∃ b off, a = some ⟨b, off, none⟩ ∧ A b ∧
      w.cell? ⟨b, off + k * 7, none⟩ = some (.int .i64 xs[k].kind) ∧ w.cell? ⟨b, off + k * 7 + 1, none⟩ = some (.string xs[k].t.kind) ∧ w.cell? ⟨b, off + k * 7 + 2, none⟩ = some (.string xs[k].t.id) ∧ w.cell? ⟨b, off + k * 7 + 3, none⟩ = some (.string xs[k].t.rel) ∧
      w.cell? ⟨b, off + k * 7 + 4, none⟩ = some (.string xs[k].t.user.kind) ∧ w.cell? ⟨b, off + k * 7 + 5, none⟩ = some (.string xs[k].t.user.id) ∧ w.cell? ⟨b, off + k * 7 + 6, none⟩ = some (.string xs[k].t.user.rel) := by
  obtain ⟨a, c, us, hv, hc, hl, hk⟩ := h.rows
  refine ⟨a, c, hv, hc, hl, fun k hlt => ?_⟩
  obtain ⟨b, off, ha, hA, hj⟩ := hk k hlt
  obtain ⟨c0, r0⟩ := hj 0 (by omega)
  obtain ⟨c1, r1⟩ := hj 1 (by omega)
  obtain ⟨c2, r2⟩ := hj 2 (by omega)
  obtain ⟨c3, r3⟩ := hj 3 (by omega)
  obtain ⟨c4, r4⟩ := hj 4 (by omega)
  obtain ⟨c5, r5⟩ := hj 5 (by omega)
  obtain ⟨c6, r6⟩ := hj 6 (by omega)
  rw [RepD.int_eq (i := xs[k].kind) r0] at c0
  rw [RepD.str_cell r1 rfl] at c1
  rw [RepD.str_cell r2 rfl] at c2
  rw [RepD.str_cell r3 rfl] at c3
  rw [RepD.str_cell r4 rfl] at c4
  rw [RepD.str_cell r5 rfl] at c5
  rw [RepD.str_cell r6 rfl] at c6
  exact ⟨b, off, ha, hA, c0, c1, c2, c3, c4, c5, c6⟩
/-- Where the law stands: the set, the document's list, what came in. -/
structure PlSt (w W : World) (fb mb : Nat) (S : List LTuple) (v : Value) (l : List LTuple) (va : Value) (acs : List LAct) (vm : Value) (M : List LTuple) (B : List (Nat × LTuple)) : Prop where
  facts : FactsAt W fb mb S
  below : Below w.heap.size w W
  rep : RepD (fun b => b < w.heap.size) W (.slice 6 (l.map LTuple.d)) v
  acts : RepD (fun b => b < w.heap.size) W (.slice 7 (acs.map LAct.d)) va
  own : OwnL W w.heap.size 32 6 LTuple.cells vm M
  box : ∀ p, p ∈ B → W.heap[p.1]? = some (.cells #[.string p.2.kind, .string p.2.id, .string p.2.rel, .string p.2.user.kind, .string p.2.user.id, .string p.2.user.rel] 32)
  past : w.heap.size ≤ mb
section
variable {w W W' : World} {fb mb : Nat} {S S' : List LTuple} {v : Value} {l : List LTuple} {va : Value} {acs : List LAct} {vm : Value} {M : List LTuple} {B : List (Nat × LTuple)}
theorem PlSt.next (h : PlSt w W fb mb S v l va acs vm M B) (hb : Below W.heap.size W W') : PlSt w W' fb mb S v l va acs vm M B :=
  ⟨h.facts.below hb, below_past h.below hb, h.rep.old hb, h.acts.old hb, h.own.below hb, fun p hp => (hb.block _ (Array.getElem?_eq_some_iff.1 (h.box p hp)).1).trans (h.box p hp), h.past⟩
theorem PlSt.put (h : PlSt w W fb mb S v l va acs vm M B) (hb : Fr (fun k => k = mb) W W') (hf : FactsAt W' fb mb S') : PlSt w W' fb mb S' v l va acs vm M B := by
  obtain ⟨es, clock, hmh, _⟩ := h.facts.2
  refine ⟨hf, h.below.trans (hb.below h.below.size (fun k hk e => by have := h.past; omega)), h.rep.fr hb (fun b hb1 e => by have := h.past; omega), h.acts.fr hb (fun b hb1 e => by have := h.past; omega), h.own.fr hb (fun k hk e => ?_), fun p hp => ?_, h.past⟩
  · subst e
    rcases h.own.2 with ⟨h1, _⟩ | ⟨g, cap, cur, hv, _, hh, _⟩
    · rw [h1] at hk; cases hk
    · rw [hv] at hk
      simp [Value.ownBlock] at hk
      rw [hk, hmh] at hh
      cases hh
  · have hbx := h.box p hp
    refine (hb.block _ (Array.getElem?_eq_some_iff.1 hbx).1 (fun e => ?_)).trans hbx
    rw [e, hmh] at hbx
    cases hbx
theorem pl_awake (h : PlSt w W fb mb S v l va acs vm M B) : Calls Try.prog 9 #[] W fun e W' => e = .returned (.bool true) ∧ PlSt w W' fb mb S v l va acs vm M B := by
  refine (awake_true W).mono ?_
  rintro e W' ⟨rfl, hb⟩
  exact ⟨rfl, h.next hb⟩
theorem pl_Few (h : PlSt w W fb mb S v l va acs vm M B) : Calls Try.prog 10 #[v] W fun e W' => e = .returned (.bool (fewB l)) ∧ PlSt w W' fb mb S v l va acs vm M B := by
  refine (ref_Few h.rep).mono ?_
  rintro e W' ⟨rfl, hb⟩
  exact ⟨rfl, h.next hb⟩
theorem pl_Few1 (h : PlSt w W fb mb S v l va acs vm M B) (t : LTuple) {N : Nat} (hN : N = W.heap.size) : Calls Try.prog 10 #[.slice (some ⟨N, 0, none⟩) 1 1] (W.alloc (.cells #[.string t.kind, .string t.id, .string t.rel, .string t.user.kind, .string t.user.id, .string t.user.rel] 32)) fun e W' => e = .returned (.bool (fewB [t])) ∧ PlSt w W' fb mb S v l va acs vm M B := by
  subst hN
  have hB : Below W.heap.size W (W.alloc (.cells #[.string t.kind, .string t.id, .string t.rel, .string t.user.kind, .string t.user.id, .string t.user.rel] 32)) := (Below.refl _ _).alloc (Nat.le_refl _) _
  have ho := own_of_block (base := 0) (g := W.heap.size) (n := 1) LTuple.len (w := (W.alloc (.cells #[.string t.kind, .string t.id, .string t.rel, .string t.user.kind, .string t.user.id, .string t.user.rel] 32))) (e := 32) [t] (by omega) rfl (by simp [maxLen]) (heap_alloc_at rfl)
  refine (ref_Few (ho.tuples (A := fun _ => True) (fun _ _ => trivial) (by simp))).mono ?_
  rintro e W' ⟨rfl, hb⟩
  exact ⟨rfl, h.next (below_past hB hb)⟩
theorem pl_New (h : PlSt w W fb mb S v l va acs vm M B) (hf : fewB l = true) : Calls Try.prog 11 #[v] W fun e W' => ∃ v', e = .returned v' ∧ PlSt w W' fb mb S v l va acs v' (canon tLess (newS l)) B := by
  obtain ⟨h1, h2⟩ := few_all hf
  refine (ref_New h.rep h1 (by omega)).mono ?_
  rintro e W' ⟨v', rfl, ho, hb⟩
  have h3 := h.next hb
  exact ⟨v', rfl, h3.facts, h3.below, h3.rep, h3.acts, ho.rebase h.below.size, h3.box, h3.past⟩
theorem pl_refHas (h : PlSt w W fb mb S v l va acs vm M B) (hM : M.length ≤ 100000) (z : LTuple) : Calls Try.prog 12 #[vm, .agg #[.string z.kind, .string z.id, .string z.rel, .string z.user.kind, .string z.user.id, .string z.user.rel]] W fun e W' => e = .returned (.bool (decide (z ∈ M))) ∧ PlSt w W' fb mb S v l va acs vm M B := by
  refine (ref_Has (h.own.tuples (A := fun _ => True) (fun _ _ => trivial) (by omega)) z).mono ?_
  rintro e W' ⟨rfl, hb⟩
  exact ⟨rfl, h.next hb⟩
theorem pl_Has (h : PlSt w W fb mb S v l va acs vm M B) (z : LTuple) : Calls Try.prog 13 #[.pointer (some ⟨fb, 0, none⟩), .agg #[.string z.kind, .string z.id, .string z.rel, .string z.user.kind, .string z.user.id, .string z.user.rel]] W fun e W' => e = .returned (.bool (decide (z ∈ S))) ∧ PlSt w W' fb mb S v l va acs vm M B := by
  refine (facts_Has h.facts _ _ _ _ _ _).mono ?_
  rintro e W' ⟨rfl, hb⟩
  exact ⟨rfl, h.next hb⟩
theorem pl_refPut (h : PlSt w W fb mb S v l va acs vm M B) (hM : M.length ≤ 100000) (z : LTuple) (hz : shortT z = true) : Calls Try.prog 14 #[vm, .agg #[.string z.kind, .string z.id, .string z.rel, .string z.user.kind, .string z.user.id, .string z.user.rel]] W fun e W' => ∃ v', e = .returned (.tuple #[v', .bool (mayPut M z)]) ∧ PlSt w W' fb mb S v l va acs v' (putL M z) B := by
  refine (ref_Put h.own h.below.size hM z hz).mono ?_
  rintro e W' ⟨v', rfl, ho, hb⟩
  have h3 := h.next hb
  exact ⟨v', rfl, h3.facts, h3.below, h3.rep, h3.acts, ho, h3.box, h3.past⟩
theorem pl_Put (h : PlSt w W fb mb S v l va acs vm M B) (z : LTuple) : Calls Try.prog 15 #[.pointer (some ⟨fb, 0, none⟩), .agg #[.string z.kind, .string z.id, .string z.rel, .string z.user.kind, .string z.user.id, .string z.user.rel]] W fun e W' => e = .returned (.bool (mayPut S z)) ∧ PlSt w W' fb mb (putS S z) v l va acs vm M B := by
  refine (facts_Put h.facts z).mono ?_
  rintro e W' ⟨rfl, hf, hb⟩
  exact ⟨rfl, h.put hb hf⟩
theorem pl_refDrop (h : PlSt w W fb mb S v l va acs vm M B) (hM : M.length ≤ 100000) (z : LTuple) : Calls Try.prog 16 #[vm, .agg #[.string z.kind, .string z.id, .string z.rel, .string z.user.kind, .string z.user.id, .string z.user.rel]] W fun e W' => ∃ v', e = .returned v' ∧ PlSt w W' fb mb S v l va acs v' (dropL M z) B := by
  refine (ref_Drop (h.own.tuples (A := fun _ => True) (fun _ _ => trivial) (by omega)) hM z).mono ?_
  rintro e W' ⟨v', rfl, ho, hb⟩
  have h3 := h.next hb
  exact ⟨v', rfl, h3.facts, h3.below, h3.rep, h3.acts, ho.rebase h.below.size, h3.box, h3.past⟩
theorem pl_Drop (h : PlSt w W fb mb S v l va acs vm M B) (z : LTuple) : Calls Try.prog 17 #[.pointer (some ⟨fb, 0, none⟩), .agg #[.string z.kind, .string z.id, .string z.rel, .string z.user.kind, .string z.user.id, .string z.user.rel]] W fun e W' => e = .returned (.bool (decide (z ∈ S))) ∧ PlSt w W' fb mb (dropS S z) v l va acs vm M B := by
  refine (facts_Drop h.facts z).mono ?_
  rintro e W' ⟨rfl, hf, hb⟩
  exact ⟨rfl, h.put hb hf⟩
theorem pl_All (h : PlSt w W fb mb S v l va acs vm M B) (hS : S.length ≤ 100000) : Calls Try.prog 19 #[.pointer (some ⟨fb, 0, none⟩)] W fun e W' => ∃ u, e = .returned u ∧ PlSt w W' fb mb S v l va acs vm M B ∧ RepD (fun _ => True) W' (.slice 6 ((canon tLess S).map LTuple.d)) u := by
  refine (facts_All h.facts (by omega)).mono ?_
  rintro e W' ⟨u, rfl, ho, hb⟩
  exact ⟨u, rfl, h.next hb, ho.tuples (fun _ _ => trivial) (Nat.le_trans (canon_length_le _) (by omega))⟩
theorem pl_Same (h : PlSt w W fb mb S v l va acs vm M B) {u : Value} (hu : RepD (fun _ => True) W (.slice 6 (M.map LTuple.d)) u) (hM : M.length ≤ 100000) : Calls Try.prog 18 #[u, vm] W fun e W' => e = .returned (.bool true) ∧ PlSt w W' fb mb S v l va acs vm M B := by
  refine (ref_Same hu (h.own.tuples (A := fun _ => True) (fun _ _ => trivial) (by omega))).mono ?_
  rintro e W' ⟨rfl, hb⟩
  exact ⟨by simp, h.next hb⟩
theorem PlSt.act {b off n c : Nat} (h : PlSt w W fb mb S v l (.slice (some ⟨b, off, none⟩) n c) acs vm M B) {q : Nat} (hq : q < acs.length) {a : LAct} (ha : acs[q] = a) :
    W.cell? ⟨b, off + q * 7, none⟩ = some (.int .i64 a.kind) ∧ W.cell? ⟨b, off + q * 7 + 1, none⟩ = some (.string a.t.kind) ∧ W.cell? ⟨b, off + q * 7 + 2, none⟩ = some (.string a.t.id) ∧ W.cell? ⟨b, off + q * 7 + 3, none⟩ = some (.string a.t.rel) ∧
      W.cell? ⟨b, off + q * 7 + 4, none⟩ = some (.string a.t.user.kind) ∧ W.cell? ⟨b, off + q * 7 + 5, none⟩ = some (.string a.t.user.id) ∧ W.cell? ⟨b, off + q * 7 + 6, none⟩ = some (.string a.t.user.rel) := by
  subst ha
  obtain ⟨a', c', hv, _, _, hk⟩ := h.acts.acts
  injection hv with e1 e2 e3
  obtain ⟨b', off', hab, _, hc⟩ := hk q hq
  rw [hab] at e1
  cases e1
  exact hc
/-- The tuple, in a box of its own. -/
theorem PlSt.boxed (h : PlSt w W fb mb S v l va acs vm M B) (t : LTuple) : PlSt w (W.alloc (.cells #[.string t.kind, .string t.id, .string t.rel, .string t.user.kind, .string t.user.id, .string t.user.rel] 32)) fb mb S v l va acs vm M [(W.heap.size, t)] := by
  have h1 := h.next ((Below.refl _ W).alloc (Nat.le_refl _) (.cells #[.string t.kind, .string t.id, .string t.rel, .string t.user.kind, .string t.user.id, .string t.user.rel] 32))
  refine ⟨h1.facts, h1.below, h1.rep, h1.acts, h1.own, fun p hp => ?_, h1.past⟩
  obtain rfl : p = (W.heap.size, t) := by simpa using hp
  exact heap_alloc_at rfl
theorem PlSt.bare (h : PlSt w W fb mb S v l va acs vm M B) : PlSt w W fb mb S v l va acs vm M [] := ⟨h.facts, h.below, h.rep, h.acts, h.own, (fun p hp => by cases hp), h.past⟩
end
set_option maxRecDepth 100000 in
set_option maxHeartbeats 40000000 in
theorem play_walk {w : World} {l : List LTuple} {v : Value} (hv : RepD (fun _ => True) w (.slice 6 (l.map LTuple.d)) v) (hs : Slc v) (hl : l.length ≤ 1048576) {acs : List LAct} {va : Value} (ha : RepD (fun _ => True) w (.slice 7 (acs.map LAct.d)) va) (hsa : Slc va) (hla : acs.length ≤ 1048576) :
    Calls Try.prog 3 #[v, va] w fun e w' => e = .returned (.bool true) ∧ Below w.heap.size w w' := by
  have hv2 := hv.old ((Below.refl _ w).alloc (Nat.le_refl _) (.cells #[] 32))
  have hmade := own_made (w := w) (N := w.heap.size) rfl 32 6 LTuple.cells
  have HV := Lib.hid hv2; have HS := Lib.hid hs; have HM := Lib.hid hmade
  have HV0 := Lib.hid (hv.mono (A' := fun b => b < w.heap.size) (fun b _ hlt => hlt))
  have HA0 := Lib.hid (ha.mono (A' := fun b => b < w.heap.size) (fun b _ hlt => hlt))
  clear hv2 hs hmade hv ha
  go_enter Try.func3, Try.ntmps3
  go_wp2_with (at_builtin; refine wpList_app_in (dd := LTuple.d) w.heap.size rfl _ _ _ 32 _ 6 96 rfl Try.underlying22 info_tuple rfl (by omega) (by omega) LTuple.cells LTuple.len LTuple.one tuple_cell (.slice (some ⟨w.heap.size, 0, none⟩) 0 0) v [] l rfl rfl HV.out HS.out HM.out (by simp) (by simp; omega) ?_; intro v1 w1 hO hb1)
  have hN := facts_New l v1 w1 (hO.tuples (A := fun _ => True) (fun _ _ => trivial) (by simp; omega))
  have HN := Lib.hid hN; clear hN hO HM
  go_wp2_with fail
  refine HN.out.mono ?_
  rintro r w2 ⟨fb, mb, rfl, hfb, hmb, hF, _, hb2⟩
  have hB1 : Below w.heap.size w w1 := ((Below.refl _ w).alloc (Nat.le_refl _) (.cells #[] 32)).trans hb1
  have hB2 := below_past hB1 hb2
  have ST := Lib.hid (show PlSt w w2 fb mb (newS l) v l va acs (.slice none 0 0) [] [] from ⟨hF, hB2, HV0.out.old hB2, HA0.out.old hB2, OwnL.nil _ _ _ _ _, (fun p hp => by cases hp), by have := hB1.size; omega⟩)
  clear hF HN HV HV0 HA0 hb1 hb2 hB1 hB2 hfb hmb
  have hlen : (newS l).length ≤ l.length := newS_length_le l
  have c0 := fun W S vm M (h : PlSt w W fb mb S v l va acs vm M []) => pl_Few h
  have hfew : fewB l = true → l.length ≤ 80 := few_length
  have n0 := fun W S vm M (h : PlSt w W fb mb S v l va acs vm M []) (hf : fewB l = true) => pl_New h hf
  generalize newS l = S at *
  generalize fewB l = f1 at *
  have C0 := Lib.hid c0; have HFEW := Lib.hid hfew; have HLEN := Lib.hid hlen; have N0 := Lib.hid n0
  clear c0 hfew hlen n0
  cases f1
  · go_wp2_with (first
      | (go_at_call 9; with_reducible refine (pl_awake ST.out).mono ?_; rintro r w3 ⟨rfl, hx⟩; clear ST; have ST := Lib.hid hx; clear hx)
      | (go_at_call 10; with_reducible refine (C0.out _ _ _ _ ST.out).mono ?_; rintro r w3 ⟨rfl, hx⟩; clear ST; have ST := Lib.hid hx; clear hx))
    go_ret
    exact ⟨rfl, ST.out.below⟩
  have h80 : S.length ≤ 80 := Nat.le_trans HLEN.out (HFEW.out rfl)
  clear HLEN HFEW
  go_wp2_with fail
  with_reducible refine (pl_awake ST.out).mono ?_
  rintro r w3 ⟨rfl, hx⟩
  clear ST
  have ST := Lib.hid hx
  clear hx
  go_wp2_with fail
  with_reducible refine (C0.out _ _ _ _ ST.out).mono ?_
  rintro r w3 ⟨rfl, hx⟩
  clear ST
  have ST := Lib.hid hx
  clear hx
  go_wp2_with fail
  refine (N0.out _ _ _ _ ST.out trivial).mono ?_
  rintro r w4 ⟨vm, rfl, hx⟩
  clear ST
  have ST := Lib.hid hx
  clear hx C0 N0
  obtain ⟨aa, ca, hva, _, _, _⟩ := ST.out.acts.acts
  subst hva
  go_wp2
  go_loopw [6, 7] (fun vm n wr => ∃ (q : Nat) (S : List LTuple), q ≤ acs.length ∧ q ≤ 60 ∧ n = .int .i64 q ∧ S.length ≤ 80 + q ∧ Aside (PlSt w wr fb mb S v l (.slice aa acs.length ca) acs vm (canon tLess S) [])) (fun _ n _ => acs.length - (intOf n).toNat)
  case atStart => exact ⟨0, S, by omega, by omega, rfl, by omega, ⟨ST.out⟩⟩
  case round =>
    obtain ⟨q, S2, hq, hq2, rfl, hSl, hU⟩ := hrel
    clear ST
    have ST := Lib.hid hU.out
    clear hU
    by_cases hlt : q < acs.length
    · by_cases h60 : q < 60
      · obtain ⟨b, off, rfl⟩ : ∃ b off, aa = some ⟨b, off, none⟩ := by
          obtain ⟨a', c', hv, _, _, hk⟩ := ST.out.acts.acts
          injection hv with e1
          obtain ⟨b, off, hb, _⟩ := hk q hlt
          exact ⟨b, off, e1.trans hb⟩
        generalize hact : acs[q] = act
        obtain ⟨k0, k1, k2, k3, k4, k5, k6⟩ := ST.out.act hlt hact
        have HACT := Lib.hid hact
        clear hact
        have hfew := fun W (h : PlSt w W fb mb S2 v l (.slice (some ⟨b, off, none⟩) acs.length ca) acs u6 (canon tLess S2) [(wr.heap.size, act.t)]) N (hN : N = W.heap.size) => pl_Few1 h act.t hN
        have hsh : fewB [act.t] = true → shortT act.t = true := fun h => (few_all h).1 _ (by simp)
        generalize fewB [act.t] = f2 at *
        have HFE := Lib.hid hfew; have HSH := Lib.hid hsh
        have hN : wr.heap.size + 1 = (wr.alloc (.cells #[.string act.t.kind, .string act.t.id, .string act.t.rel, .string act.t.user.kind, .string act.t.user.id, .string act.t.user.rel] 32)).heap.size := by simp
        have HN := Lib.hid hN
        clear hfew hsh hN
        go_wp2_with fail
        with_reducible refine (HFE.out _ (ST.out.boxed act.t) _ HN.out).mono ?_
        rintro r1 w5 ⟨rfl, hx⟩
        clear ST k0 k1 k2 k3 k4 k5 k6
        have ST := Lib.hid hx
        clear hx HFE HN
        obtain ⟨c0, c1, c2, c3, c4, c5⟩ := box_cells6 (ST.out.box _ (List.mem_singleton.2 rfl))
        cases f2 with
        | false =>
          go_wp2
          first
            | exact ⟨⟨q + 1, S2, by omega, by omega, by go_num, by omega, ⟨ST.out.bare⟩⟩, by simp [intOf] <;> omega⟩
            | (go_roundw
               case rel => exact ⟨q + 1, S2, by omega, by omega, by go_num, by omega, ⟨ST.out.bare⟩⟩
               case measure => simp [intOf]; omega)
        | true =>
          have hsh := HSH.out rfl
          have hcl : (canon tLess S2).length ≤ 100000 := Nat.le_trans (canon_length_le _) (by omega)
          have hpl := putS_length S2 act.t
          have hdl : (dropS S2 act.t).length ≤ S2.length := List.length_erase_le
          have hpc := putL_canon S2 act.t
          have hmc := mayPut_canon S2 act.t
          have hh1 := fun W (h : PlSt w W fb mb S2 v l (.slice (some ⟨b, off, none⟩) acs.length ca) acs u6 (canon tLess S2) [(wr.heap.size, act.t)]) => pl_refHas h hcl act.t
          have hh2 := fun W (h : PlSt w W fb mb S2 v l (.slice (some ⟨b, off, none⟩) acs.length ca) acs u6 (canon tLess S2) [(wr.heap.size, act.t)]) => pl_Has h act.t
          have hp1 := fun W (h : PlSt w W fb mb S2 v l (.slice (some ⟨b, off, none⟩) acs.length ca) acs u6 (canon tLess S2) [(wr.heap.size, act.t)]) => pl_refPut h hcl act.t hsh
          have hp2 := fun W vm M (h : PlSt w W fb mb S2 v l (.slice (some ⟨b, off, none⟩) acs.length ca) acs vm M [(wr.heap.size, act.t)]) => pl_Put h act.t
          have hd1 := fun W (h : PlSt w W fb mb S2 v l (.slice (some ⟨b, off, none⟩) acs.length ca) acs u6 (canon tLess S2) [(wr.heap.size, act.t)]) => pl_refDrop h hcl act.t
          have hd2 := fun W vm M (h : PlSt w W fb mb S2 v l (.slice (some ⟨b, off, none⟩) acs.length ca) acs vm M [(wr.heap.size, act.t)]) => pl_Drop h act.t
          rw [dropL_canon ST.out.facts.nodup] at hd1
          rw [hpc, hmc] at hp1
          simp only [mem_canon] at hh1
          clear hpc hmc hsh hcl HSH
          -- GEN
          generalize mayPut S2 act.t = p at hp1 hp2
          generalize decide (act.t ∈ S2) = hr at hh1 hh2 hd2
          have HH1 := Lib.hid hh1; have HH2 := Lib.hid hh2; have HP1 := Lib.hid hp1; have HP2 := Lib.hid hp2; have HD1 := Lib.hid hd1; have HD2 := Lib.hid hd2
          clear hh1 hh2 hp1 hp2 hd1 hd2
          have hkd : (act.kind == 0) = true ∨ (act.kind == 0) = false := by cases (act.kind == 0) <;> simp
          cases hr
          · rcases hkd with hkd | hkd
            · cases p
              · go_wp2_with fail
                refine (HH1.out _ ST.out).mono ?_
                rintro r1 w5 ⟨rfl, hx⟩
                clear ST c0 c1 c2 c3 c4 c5
                have ST := Lib.hid hx
                clear hx
                obtain ⟨c0, c1, c2, c3, c4, c5⟩ := box_cells6 (ST.out.box _ (List.mem_singleton.2 rfl))
                go_wp2_with fail
                refine (HH2.out _ ST.out).mono ?_
                rintro r1 w5 ⟨rfl, hx⟩
                clear ST c0 c1 c2 c3 c4 c5
                have ST := Lib.hid hx
                clear hx
                obtain ⟨c0, c1, c2, c3, c4, c5⟩ := box_cells6 (ST.out.box _ (List.mem_singleton.2 rfl))
                obtain ⟨k0, k1, k2, k3, k4, k5, k6⟩ := ST.out.act hlt HACT.out
                go_wp2_with fail
                refine (HP1.out _ ST.out).mono ?_
                rintro r1 w5 ⟨vq, rfl, hx⟩
                clear ST c0 c1 c2 c3 c4 c5
                have ST := Lib.hid hx
                clear hx
                obtain ⟨c0, c1, c2, c3, c4, c5⟩ := box_cells6 (ST.out.box _ (List.mem_singleton.2 rfl))
                go_wp2_with fail
                refine (HP2.out _ _ _ ST.out).mono ?_
                rintro r1 w5 ⟨rfl, hx⟩
                clear ST c0 c1 c2 c3 c4 c5
                have ST := Lib.hid hx
                clear hx
                obtain ⟨c0, c1, c2, c3, c4, c5⟩ := box_cells6 (ST.out.box _ (List.mem_singleton.2 rfl))
                go_wp2
                first
                  | exact ⟨⟨q + 1, putS S2 act.t, by omega, by omega, by go_num, by omega, ⟨ST.out.bare⟩⟩, by simp [intOf] <;> omega⟩
                  | (go_roundw
                     case rel => exact ⟨q + 1, putS S2 act.t, by omega, by omega, by go_num, by omega, ⟨ST.out.bare⟩⟩
                     case measure => simp [intOf]; omega)
              · go_wp2_with fail
                refine (HH1.out _ ST.out).mono ?_
                rintro r1 w5 ⟨rfl, hx⟩
                clear ST c0 c1 c2 c3 c4 c5
                have ST := Lib.hid hx
                clear hx
                obtain ⟨c0, c1, c2, c3, c4, c5⟩ := box_cells6 (ST.out.box _ (List.mem_singleton.2 rfl))
                go_wp2_with fail
                refine (HH2.out _ ST.out).mono ?_
                rintro r1 w5 ⟨rfl, hx⟩
                clear ST c0 c1 c2 c3 c4 c5
                have ST := Lib.hid hx
                clear hx
                obtain ⟨c0, c1, c2, c3, c4, c5⟩ := box_cells6 (ST.out.box _ (List.mem_singleton.2 rfl))
                obtain ⟨k0, k1, k2, k3, k4, k5, k6⟩ := ST.out.act hlt HACT.out
                go_wp2_with fail
                refine (HP1.out _ ST.out).mono ?_
                rintro r1 w5 ⟨vq, rfl, hx⟩
                clear ST c0 c1 c2 c3 c4 c5
                have ST := Lib.hid hx
                clear hx
                obtain ⟨c0, c1, c2, c3, c4, c5⟩ := box_cells6 (ST.out.box _ (List.mem_singleton.2 rfl))
                go_wp2_with fail
                refine (HP2.out _ _ _ ST.out).mono ?_
                rintro r1 w5 ⟨rfl, hx⟩
                clear ST c0 c1 c2 c3 c4 c5
                have ST := Lib.hid hx
                clear hx
                obtain ⟨c0, c1, c2, c3, c4, c5⟩ := box_cells6 (ST.out.box _ (List.mem_singleton.2 rfl))
                go_wp2
                first
                  | exact ⟨⟨q + 1, putS S2 act.t, by omega, by omega, by go_num, by omega, ⟨ST.out.bare⟩⟩, by simp [intOf] <;> omega⟩
                  | (go_roundw
                     case rel => exact ⟨q + 1, putS S2 act.t, by omega, by omega, by go_num, by omega, ⟨ST.out.bare⟩⟩
                     case measure => simp [intOf]; omega)
            · go_wp2_with fail
              refine (HH1.out _ ST.out).mono ?_
              rintro r1 w5 ⟨rfl, hx⟩
              clear ST c0 c1 c2 c3 c4 c5
              have ST := Lib.hid hx
              clear hx
              obtain ⟨c0, c1, c2, c3, c4, c5⟩ := box_cells6 (ST.out.box _ (List.mem_singleton.2 rfl))
              go_wp2_with fail
              refine (HH2.out _ ST.out).mono ?_
              rintro r1 w5 ⟨rfl, hx⟩
              clear ST c0 c1 c2 c3 c4 c5
              have ST := Lib.hid hx
              clear hx
              obtain ⟨c0, c1, c2, c3, c4, c5⟩ := box_cells6 (ST.out.box _ (List.mem_singleton.2 rfl))
              obtain ⟨k0, k1, k2, k3, k4, k5, k6⟩ := ST.out.act hlt HACT.out
              go_wp2_with fail
              refine (HD1.out _ ST.out).mono ?_
              rintro r1 w5 ⟨vq, rfl, hx⟩
              clear ST c0 c1 c2 c3 c4 c5
              have ST := Lib.hid hx
              clear hx
              obtain ⟨c0, c1, c2, c3, c4, c5⟩ := box_cells6 (ST.out.box _ (List.mem_singleton.2 rfl))
              go_wp2_with fail
              refine (HD2.out _ _ _ ST.out).mono ?_
              rintro r1 w5 ⟨rfl, hx⟩
              clear ST c0 c1 c2 c3 c4 c5
              have ST := Lib.hid hx
              clear hx
              obtain ⟨c0, c1, c2, c3, c4, c5⟩ := box_cells6 (ST.out.box _ (List.mem_singleton.2 rfl))
              go_wp2
              first
                | exact ⟨⟨q + 1, dropS S2 act.t, by omega, by omega, by go_num, by omega, ⟨ST.out.bare⟩⟩, by simp [intOf] <;> omega⟩
                | (go_roundw
                   case rel => exact ⟨q + 1, dropS S2 act.t, by omega, by omega, by go_num, by omega, ⟨ST.out.bare⟩⟩
                   case measure => simp [intOf]; omega)
          · rcases hkd with hkd | hkd
            · cases p
              · go_wp2_with fail
                refine (HH1.out _ ST.out).mono ?_
                rintro r1 w5 ⟨rfl, hx⟩
                clear ST c0 c1 c2 c3 c4 c5
                have ST := Lib.hid hx
                clear hx
                obtain ⟨c0, c1, c2, c3, c4, c5⟩ := box_cells6 (ST.out.box _ (List.mem_singleton.2 rfl))
                go_wp2_with fail
                refine (HH2.out _ ST.out).mono ?_
                rintro r1 w5 ⟨rfl, hx⟩
                clear ST c0 c1 c2 c3 c4 c5
                have ST := Lib.hid hx
                clear hx
                obtain ⟨c0, c1, c2, c3, c4, c5⟩ := box_cells6 (ST.out.box _ (List.mem_singleton.2 rfl))
                obtain ⟨k0, k1, k2, k3, k4, k5, k6⟩ := ST.out.act hlt HACT.out
                go_wp2_with fail
                refine (HP1.out _ ST.out).mono ?_
                rintro r1 w5 ⟨vq, rfl, hx⟩
                clear ST c0 c1 c2 c3 c4 c5
                have ST := Lib.hid hx
                clear hx
                obtain ⟨c0, c1, c2, c3, c4, c5⟩ := box_cells6 (ST.out.box _ (List.mem_singleton.2 rfl))
                go_wp2_with fail
                refine (HP2.out _ _ _ ST.out).mono ?_
                rintro r1 w5 ⟨rfl, hx⟩
                clear ST c0 c1 c2 c3 c4 c5
                have ST := Lib.hid hx
                clear hx
                obtain ⟨c0, c1, c2, c3, c4, c5⟩ := box_cells6 (ST.out.box _ (List.mem_singleton.2 rfl))
                go_wp2
                first
                  | exact ⟨⟨q + 1, putS S2 act.t, by omega, by omega, by go_num, by omega, ⟨ST.out.bare⟩⟩, by simp [intOf] <;> omega⟩
                  | (go_roundw
                     case rel => exact ⟨q + 1, putS S2 act.t, by omega, by omega, by go_num, by omega, ⟨ST.out.bare⟩⟩
                     case measure => simp [intOf]; omega)
              · go_wp2_with fail
                refine (HH1.out _ ST.out).mono ?_
                rintro r1 w5 ⟨rfl, hx⟩
                clear ST c0 c1 c2 c3 c4 c5
                have ST := Lib.hid hx
                clear hx
                obtain ⟨c0, c1, c2, c3, c4, c5⟩ := box_cells6 (ST.out.box _ (List.mem_singleton.2 rfl))
                go_wp2_with fail
                refine (HH2.out _ ST.out).mono ?_
                rintro r1 w5 ⟨rfl, hx⟩
                clear ST c0 c1 c2 c3 c4 c5
                have ST := Lib.hid hx
                clear hx
                obtain ⟨c0, c1, c2, c3, c4, c5⟩ := box_cells6 (ST.out.box _ (List.mem_singleton.2 rfl))
                obtain ⟨k0, k1, k2, k3, k4, k5, k6⟩ := ST.out.act hlt HACT.out
                go_wp2_with fail
                refine (HP1.out _ ST.out).mono ?_
                rintro r1 w5 ⟨vq, rfl, hx⟩
                clear ST c0 c1 c2 c3 c4 c5
                have ST := Lib.hid hx
                clear hx
                obtain ⟨c0, c1, c2, c3, c4, c5⟩ := box_cells6 (ST.out.box _ (List.mem_singleton.2 rfl))
                go_wp2_with fail
                refine (HP2.out _ _ _ ST.out).mono ?_
                rintro r1 w5 ⟨rfl, hx⟩
                clear ST c0 c1 c2 c3 c4 c5
                have ST := Lib.hid hx
                clear hx
                obtain ⟨c0, c1, c2, c3, c4, c5⟩ := box_cells6 (ST.out.box _ (List.mem_singleton.2 rfl))
                go_wp2
                first
                  | exact ⟨⟨q + 1, putS S2 act.t, by omega, by omega, by go_num, by omega, ⟨ST.out.bare⟩⟩, by simp [intOf] <;> omega⟩
                  | (go_roundw
                     case rel => exact ⟨q + 1, putS S2 act.t, by omega, by omega, by go_num, by omega, ⟨ST.out.bare⟩⟩
                     case measure => simp [intOf]; omega)
            · go_wp2_with fail
              refine (HH1.out _ ST.out).mono ?_
              rintro r1 w5 ⟨rfl, hx⟩
              clear ST c0 c1 c2 c3 c4 c5
              have ST := Lib.hid hx
              clear hx
              obtain ⟨c0, c1, c2, c3, c4, c5⟩ := box_cells6 (ST.out.box _ (List.mem_singleton.2 rfl))
              go_wp2_with fail
              refine (HH2.out _ ST.out).mono ?_
              rintro r1 w5 ⟨rfl, hx⟩
              clear ST c0 c1 c2 c3 c4 c5
              have ST := Lib.hid hx
              clear hx
              obtain ⟨c0, c1, c2, c3, c4, c5⟩ := box_cells6 (ST.out.box _ (List.mem_singleton.2 rfl))
              obtain ⟨k0, k1, k2, k3, k4, k5, k6⟩ := ST.out.act hlt HACT.out
              go_wp2_with fail
              refine (HD1.out _ ST.out).mono ?_
              rintro r1 w5 ⟨vq, rfl, hx⟩
              clear ST c0 c1 c2 c3 c4 c5
              have ST := Lib.hid hx
              clear hx
              obtain ⟨c0, c1, c2, c3, c4, c5⟩ := box_cells6 (ST.out.box _ (List.mem_singleton.2 rfl))
              go_wp2_with fail
              refine (HD2.out _ _ _ ST.out).mono ?_
              rintro r1 w5 ⟨rfl, hx⟩
              clear ST c0 c1 c2 c3 c4 c5
              have ST := Lib.hid hx
              clear hx
              obtain ⟨c0, c1, c2, c3, c4, c5⟩ := box_cells6 (ST.out.box _ (List.mem_singleton.2 rfl))
              go_wp2
              first
                | exact ⟨⟨q + 1, dropS S2 act.t, by omega, by omega, by go_num, by omega, ⟨ST.out.bare⟩⟩, by simp [intOf] <;> omega⟩
                | (go_roundw
                   case rel => exact ⟨q + 1, dropS S2 act.t, by omega, by omega, by go_num, by omega, ⟨ST.out.bare⟩⟩
                   case measure => simp [intOf]; omega)
      · have h60e : q = 60 := by omega
        have hl2 : (canon tLess S2).length ≤ 100000 := Nat.le_trans (canon_length_le _) (by omega)
        have hal := fun W (h : PlSt w W fb mb S2 v l (.slice aa acs.length ca) acs u6 (canon tLess S2) []) => pl_All h (by omega)
        have hsm := fun W (h : PlSt w W fb mb S2 v l (.slice aa acs.length ca) acs u6 (canon tLess S2) []) u (hu : RepD (fun _ => True) W (.slice 6 ((canon tLess S2).map LTuple.d)) u) => pl_Same h hu hl2
        have HAL := Lib.hid hal; have HSM := Lib.hid hsm
        clear hal hsm hl2
        go_wp2_with fail
        refine (HAL.out _ ST.out).mono ?_
        rintro r1 w5 ⟨u, rfl, hx, hu⟩
        clear ST
        have ST := Lib.hid hx
        have HU := Lib.hid hu
        clear hx hu
        go_wp2_with fail
        refine (HSM.out _ ST.out _ HU.out).mono ?_
        rintro r1 w6 ⟨rfl, hx⟩
        go_wp2
        go_ret
        exact ⟨rfl, hx.below⟩
    · have hqe : q = acs.length := by omega
      have hl2 : (canon tLess S2).length ≤ 100000 := Nat.le_trans (canon_length_le _) (by omega)
      have hal := fun W (h : PlSt w W fb mb S2 v l (.slice aa acs.length ca) acs u6 (canon tLess S2) []) => pl_All h (by omega)
      have hsm := fun W (h : PlSt w W fb mb S2 v l (.slice aa acs.length ca) acs u6 (canon tLess S2) []) u (hu : RepD (fun _ => True) W (.slice 6 ((canon tLess S2).map LTuple.d)) u) => pl_Same h hu hl2
      have HAL := Lib.hid hal; have HSM := Lib.hid hsm
      clear hal hsm hl2
      go_wp2_with fail
      refine (HAL.out _ ST.out).mono ?_
      rintro r1 w5 ⟨u, rfl, hx, hu⟩
      clear ST
      have ST := Lib.hid hx
      have HU := Lib.hid hu
      clear hx hu
      go_wp2_with fail
      refine (HSM.out _ ST.out _ HU.out).mono ?_
      rintro r1 w6 ⟨rfl, hx⟩
      go_wp2
      go_ret
      exact ⟨rfl, hx.below⟩
end Go.Proofs.Ytnfkjodiielidaa

/- FactsFind: the walk. -/
import Derived.Test.YtnfkjodiielidaaGreatWawake
import Derived.Test.YtnfkjodiielidaaGreatWsame
import Derived.Test.YtnfkjodiielidaaGreatWrefnew
import Derived.Test.YtnfkjodiielidaaGreatWrefusers
import Derived.Test.YtnfkjodiielidaaGreatWrefmeans
import Derived.Test.YtnfkjodiielidaaGreatWrefobj
import Derived.Test.YtnfkjodiielidaaGreatWrefpeople
import Derived.Deep.RegionHeld3
namespace Go.Proofs.YtnfkjodiielidaaGreat
set_option linter.unusedVariables false
set_option linter.unusedSimpArgs false
open Go.RowKit

theorem newS_sub {z : LTuple} {l : List LTuple} (h : z ∈ newS l) : z ∈ l := by
  have : ∀ (l S : List LTuple), z ∈ l.foldl putS S → z ∈ S ∨ z ∈ l := by
    intro l
    induction l with
    | nil => intro S h; exact .inl h
    | cons t l ih =>
      intro S h
      rcases ih _ h with h | h
      · unfold putS at h
        split at h
        · rcases List.mem_append.1 h with h | h
          · exact .inl h
          · exact .inr (by simp at h; simp [h])
        · exact .inl h
      · exact .inr (by simp [h])
  rcases this l [] h with h | h
  · cases h
  · exact h
theorem newS_len {l : List LTuple} : (newS l).length ≤ l.length := by
  have : ∀ (l S : List LTuple), (l.foldl putS S).length ≤ S.length + l.length := by
    intro l
    induction l with
    | nil => intro S; simp
    | cons t l ih =>
      intro S
      have h1 := ih (putS S t)
      have h2 : (putS S t).length ≤ S.length + 1 := by unfold putS; split <;> simp
      simp only [List.foldl_cons, List.length_cons]
      omega
  have h := this l []
  simpa [newS] using h
theorem objectsOf_canon (S : List LTuple) (k : ByteArray) : canon ltS ((canon tLess S).flatMap (objs1 k)) = objectsOf S k := by
  unfold objectsOf
  refine canon_ext lin_ltS fun z => ?_
  simp only [List.mem_flatMap, mem_canon]
theorem peopleOf_canon (S : List LTuple) : peopleOf (canon tLess S) = peopleOf S := by
  unfold peopleOf
  refine canon_ext lin_uLess fun z => ?_
  simp only [List.mem_map, mem_canon]
/-- Where the law stands. -/
structure GSt (w W : World) (fb mb : Nat) (S : List LTuple) (v : Value) (l : List LTuple) (x : LTuple) (vm : Value) (M : List LTuple) (A : List (Option Addr × Nat × List LTuple)) (U : List (Option Addr × Nat × List LUser)) (T : List (Option Addr × Nat × List ByteArray)) : Prop where
  facts : FactsAt W fb mb S
  below : Below w.heap.size w W
  rep : RepD (fun b => b < w.heap.size) W (.slice 6 (l.map LTuple.d)) v
  xs : W.cell? ⟨w.heap.size, 0, none⟩ = some (.string x.kind) ∧ W.cell? ⟨w.heap.size, 1, none⟩ = some (.string x.id) ∧ W.cell? ⟨w.heap.size, 2, none⟩ = some (.string x.rel) ∧ W.cell? ⟨w.heap.size, 3, none⟩ = some (.string x.user.kind) ∧ W.cell? ⟨w.heap.size, 4, none⟩ = some (.string x.user.id) ∧ W.cell? ⟨w.heap.size, 5, none⟩ = some (.string x.user.rel)
  m : OwnL W w.heap.size 49 6 LTuple.cells vm M
  own : ∀ p, p ∈ A → OwnL W w.heap.size 49 6 LTuple.cells (.slice p.1 p.2.2.length p.2.1) p.2.2
  usr : ∀ p, p ∈ U → OwnL W w.heap.size 24 3 LUser.cells (.slice p.1 p.2.2.length p.2.1) p.2.2
  str : ∀ p, p ∈ T → OwnL W w.heap.size 9 1 strCells (.slice p.1 p.2.2.length p.2.1) p.2.2
section
variable {w W W' : World} {fb mb : Nat} {S : List LTuple} {v : Value} {l : List LTuple} {x : LTuple} {vm : Value} {M : List LTuple} {A : List (Option Addr × Nat × List LTuple)} {U : List (Option Addr × Nat × List LUser)} {T : List (Option Addr × Nat × List ByteArray)}
theorem GSt.next (h : GSt w W fb mb S v l x vm M A U T) (hb : Below W.heap.size W W') : GSt w W' fb mb S v l x vm M A U T := by
  have hlt : w.heap.size < W.heap.size := World.block_lt_of_cell? _ _ h.xs.1
  have hc : ∀ j, W'.cell? ⟨w.heap.size, j, none⟩ = W.cell? ⟨w.heap.size, j, none⟩ := fun j => hb.cell (p := ⟨w.heap.size, j, none⟩) hlt
  refine ⟨h.facts.below hb, below_past h.below hb, h.rep.old hb, ?_, h.m.below hb, fun p hp => (h.own p hp).below hb, fun p hp => (h.usr p hp).below hb, fun p hp => (h.str p hp).below hb⟩
  simp only [hc]
  exact h.xs
theorem g_awake (h : GSt w W fb mb S v l x vm M A U T) : Calls Tryz.prog 5 #[] W fun e W' => e = .returned (.bool true) ∧ GSt w W' fb mb S v l x vm M A U T := by
  refine (awake_true W).mono ?_
  rintro e W' ⟨rfl, hb⟩
  exact ⟨rfl, h.next hb⟩
theorem g_Few (h : GSt w W fb mb S v l x vm M A U T) : Calls Tryz.prog 6 #[v] W fun e W' => e = .returned (.bool (fewB l)) ∧ GSt w W' fb mb S v l x vm M A U T := by
  refine (ref_Few h.rep).mono ?_
  rintro e W' ⟨rfl, hb⟩
  exact ⟨rfl, h.next hb⟩
theorem g_New (h : GSt w W fb mb S v l x vm M A U T) (hf : fewB l = true) : Calls Tryz.prog 7 #[v] W fun e W' => ∃ v', e = .returned v' ∧ GSt w W' fb mb S v l x v' (canon tLess (newS l)) A U T := by
  obtain ⟨h1, h2⟩ := few_all hf
  refine (ref_New h.rep h1 (by omega)).mono ?_
  rintro e W' ⟨v', rfl, ho, hb⟩
  have h3 := h.next hb
  exact ⟨v', rfl, h3.facts, h3.below, h3.rep, h3.xs, ho.rebase h.below.size, h3.own, h3.usr, h3.str⟩
theorem g_Find (h : GSt w W fb mb S v l x vm M A U T) (hS : S.length ≤ 1000000000000) (most : Int) {L : List LTuple} (hL : ((canon tLess S).filter (meansB x)).take most.toNat = L) :
    Calls Tryz.prog 9 #[.pointer (some ⟨fb, 0, none⟩), .agg #[.string x.kind, .string x.id, .string x.rel, .string x.user.kind, .string x.user.id, .string x.user.rel], .int .i64 most] W fun e W' => ∃ a c, e = .returned (.slice a L.length c) ∧ GSt w W' fb mb S v l x vm M ((a, c, L) :: A) U T := by
  subst hL
  refine (facts_Find h.facts hS x most).mono ?_
  rintro e W' ⟨u, rfl, ho, hb⟩
  obtain ⟨a, c, rfl, _⟩ := ho.form
  have h3 := h.next hb
  refine ⟨a, c, rfl, h3.facts, h3.below, h3.rep, h3.xs, h3.m, fun p hp => ?_, h3.usr, h3.str⟩
  rcases List.mem_cons.1 hp with rfl | hp
  · exact ho.rebase h.below.size
  · exact h3.own p hp
theorem g_rFind (h : GSt w W fb mb S v l x vm M A U T) (hM : M.length ≤ 1000) (most : Int) {L : List LTuple} (hL : (M.filter (meansB x)).take most.toNat = L) :
    Calls Tryz.prog 10 #[vm, .agg #[.string x.kind, .string x.id, .string x.rel, .string x.user.kind, .string x.user.id, .string x.user.rel], .int .i64 most] W fun e W' => ∃ a c, e = .returned (.slice a L.length c) ∧ GSt w W' fb mb S v l x vm M ((a, c, L) :: A) U T := by
  subst hL
  refine (ref_Find (h.m.tuples (A := fun _ => True) (fun _ _ => trivial) (by omega)) (by omega) x most).mono ?_
  rintro e W' ⟨u, rfl, ho, hb⟩
  obtain ⟨a, c, rfl, _⟩ := ho.form
  have h3 := h.next hb
  refine ⟨a, c, rfl, h3.facts, h3.below, h3.rep, h3.xs, h3.m, fun p hp => ?_, h3.usr, h3.str⟩
  rcases List.mem_cons.1 hp with rfl | hp
  · exact ho.rebase h.below.size
  · exact h3.own p hp
theorem g_Same (h : GSt w W fb mb S v l x vm M A U T) {a a' : Option Addr} {c c' : Nat} {L : List LTuple} (hp : (a, c, L) ∈ A) (hq : (a', c', L) ∈ A) (hl : L.length ≤ 1000000) :
    Calls Tryz.prog 8 #[.slice a L.length c, .slice a' L.length c'] W fun e W' => e = .returned (.bool true) ∧ GSt w W' fb mb S v l x vm M A U T := by
  have h1 : RepD (fun _ => True) W (.slice 6 (L.map LTuple.d)) (.slice a L.length c) := (h.own _ hp).tuples (fun _ _ => trivial) (by show L.length ≤ _; omega)
  have h2 : RepD (fun _ => True) W (.slice 6 (L.map LTuple.d)) (.slice a' L.length c') := (h.own _ hq).tuples (fun _ _ => trivial) (by show L.length ≤ _; omega)
  refine (ref_Same h1 h2).mono ?_
  rintro e W' ⟨rfl, hb⟩
  exact ⟨by simp, h.next hb⟩
theorem g_Users (h : GSt w W fb mb S v l x vm M A U T) (hS : S.length ≤ 1000000000000) (k i r : ByteArray) {L : List LUser} (hL : usersOf S k i r = L) :
    Calls Tryz.prog 12 #[.pointer (some ⟨fb, 0, none⟩), .string k, .string i, .string r] W fun e W' => ∃ a c, e = .returned (.slice a L.length c) ∧ GSt w W' fb mb S v l x vm M A ((a, c, L) :: U) T := by
  subst hL
  refine (facts_Users h.facts hS k i r).mono ?_
  rintro e W' ⟨u, rfl, ho, hb⟩
  obtain ⟨a, c, rfl, _⟩ := ho.form
  have h3 := h.next hb
  refine ⟨a, c, rfl, h3.facts, h3.below, h3.rep, h3.xs, h3.m, h3.own, fun p hp => ?_, h3.str⟩
  rcases List.mem_cons.1 hp with rfl | hp
  · exact ho.rebase h.below.size
  · exact h3.usr p hp
theorem g_rUsers (h : GSt w W fb mb S v l x vm M A U T) (hM : M.length ≤ 1000) (k i r : ByteArray) {L : List LUser} (hL : usersL M k i r = L) :
    Calls Tryz.prog 13 #[vm, .string k, .string i, .string r] W fun e W' => ∃ a c, e = .returned (.slice a L.length c) ∧ GSt w W' fb mb S v l x vm M A ((a, c, L) :: U) T := by
  subst hL
  refine (ref_Users (h.m.tuples (A := fun _ => True) (fun _ _ => trivial) (by omega)) (by omega) k i r).mono ?_
  rintro e W' ⟨u, rfl, ho, hb⟩
  obtain ⟨a, c, rfl, _⟩ := ho.form
  have h3 := h.next hb
  refine ⟨a, c, rfl, h3.facts, h3.below, h3.rep, h3.xs, h3.m, h3.own, fun p hp => ?_, h3.str⟩
  rcases List.mem_cons.1 hp with rfl | hp
  · exact ho.rebase h.below.size
  · exact h3.usr p hp
theorem g_People (h : GSt w W fb mb S v l x vm M A U T) (hS : S.length ≤ 1000000000000) {L : List LUser} (hL : peopleOf S = L) :
    Calls Tryz.prog 17 #[.pointer (some ⟨fb, 0, none⟩)] W fun e W' => ∃ a c, e = .returned (.slice a L.length c) ∧ GSt w W' fb mb S v l x vm M A ((a, c, L) :: U) T := by
  subst hL
  refine (facts_People h.facts hS).mono ?_
  rintro e W' ⟨u, rfl, ho, hb⟩
  obtain ⟨a, c, rfl, _⟩ := ho.form
  have h3 := h.next hb
  refine ⟨a, c, rfl, h3.facts, h3.below, h3.rep, h3.xs, h3.m, h3.own, fun p hp => ?_, h3.str⟩
  rcases List.mem_cons.1 hp with rfl | hp
  · exact ho.rebase h.below.size
  · exact h3.usr p hp
theorem g_rPeople (h : GSt w W fb mb S v l x vm M A U T) (hM : M.length ≤ 1000) (hs : ∀ t, t ∈ M → shortT t = true) {L : List LUser} (hL : peopleOf M = L) :
    Calls Tryz.prog 18 #[vm] W fun e W' => ∃ a c, e = .returned (.slice a L.length c) ∧ GSt w W' fb mb S v l x vm M A ((a, c, L) :: U) T := by
  subst hL
  refine (ref_People (h.m.tuples (A := fun _ => True) (fun _ _ => trivial) (by omega)) hs hM).mono ?_
  rintro e W' ⟨u, rfl, ho, hb⟩
  obtain ⟨a, c, rfl, _⟩ := ho.form
  have h3 := h.next hb
  refine ⟨a, c, rfl, h3.facts, h3.below, h3.rep, h3.xs, h3.m, h3.own, fun p hp => ?_, h3.str⟩
  rcases List.mem_cons.1 hp with rfl | hp
  · exact ho.rebase h.below.size
  · exact h3.usr p hp
theorem g_SameUsers (h : GSt w W fb mb S v l x vm M A U T) {a a' : Option Addr} {c c' : Nat} {L : List LUser} (hp : (a, c, L) ∈ U) (hq : (a', c', L) ∈ U) (hl : L.length ≤ 1000000) :
    Calls Tryz.prog 11 #[.slice a L.length c, .slice a' L.length c'] W fun e W' => e = .returned (.bool true) ∧ GSt w W' fb mb S v l x vm M A U T := by
  have h1 : RepD (fun _ => True) W (.slice 3 (L.map LUser.d)) (.slice a L.length c) := (h.usr _ hp).users (fun _ _ => trivial) (by show L.length ≤ _; omega)
  have h2 : RepD (fun _ => True) W (.slice 3 (L.map LUser.d)) (.slice a' L.length c') := (h.usr _ hq).users (fun _ _ => trivial) (by show L.length ≤ _; omega)
  refine (ref_SameUsers h1 h2).mono ?_
  rintro e W' ⟨rfl, hb⟩
  exact ⟨by simp, h.next hb⟩
theorem g_Objects (h : GSt w W fb mb S v l x vm M A U T) (hS : S.length ≤ 1000000000000) (k : ByteArray) {L : List ByteArray} (hL : objectsOf S k = L) :
    Calls Tryz.prog 15 #[.pointer (some ⟨fb, 0, none⟩), .string k] W fun e W' => ∃ a c, e = .returned (.slice a L.length c) ∧ GSt w W' fb mb S v l x vm M A U ((a, c, L) :: T) := by
  subst hL
  refine (facts_Objects h.facts hS k).mono ?_
  rintro e W' ⟨u, rfl, ho, hb⟩
  obtain ⟨a, c, rfl, _⟩ := ho.form
  have h3 := h.next hb
  refine ⟨a, c, rfl, h3.facts, h3.below, h3.rep, h3.xs, h3.m, h3.own, h3.usr, fun p hp => ?_⟩
  rcases List.mem_cons.1 hp with rfl | hp
  · exact ho.rebase h.below.size
  · exact h3.str p hp
theorem g_rObjects (h : GSt w W fb mb S v l x vm M A U T) (hM : M.length ≤ 1000) (hs : ∀ t, t ∈ M → shortT t = true) (k : ByteArray) {L : List ByteArray} (hL : canon ltS (M.flatMap (objs1 k)) = L) :
    Calls Tryz.prog 16 #[vm, .string k] W fun e W' => ∃ a c, e = .returned (.slice a L.length c) ∧ GSt w W' fb mb S v l x vm M A U ((a, c, L) :: T) := by
  subst hL
  refine (ref_Objects (h.m.tuples (A := fun _ => True) (fun _ _ => trivial) (by omega)) (fun t ht => by have := shortT_all (hs t ht); exact ⟨this.2.1, this.2.2.2.2.1⟩) hM k).mono ?_
  rintro e W' ⟨u, rfl, ho, hb⟩
  obtain ⟨a, c, rfl, _⟩ := ho.form
  have h3 := h.next hb
  refine ⟨a, c, rfl, h3.facts, h3.below, h3.rep, h3.xs, h3.m, h3.own, h3.usr, fun p hp => ?_⟩
  rcases List.mem_cons.1 hp with rfl | hp
  · exact ho.rebase h.below.size
  · exact h3.str p hp
theorem g_SameS (h : GSt w W fb mb S v l x vm M A U T) {a a' : Option Addr} {c c' : Nat} {L : List ByteArray} (hp : (a, c, L) ∈ T) (hq : (a', c', L) ∈ T) (hl : L.length ≤ 1000000) :
    Calls Tryz.prog 14 #[.slice a L.length c, .slice a' L.length c'] W fun e W' => e = .returned (.bool true) ∧ GSt w W' fb mb S v l x vm M A U T := by
  have h1 : RepD (fun _ => True) W (.slice 1 (L.map fun s => [.str s])) (.slice a L.length c) := (h.str _ hp).strs (fun _ _ => trivial) (by show L.length ≤ _; omega)
  have h2 : RepD (fun _ => True) W (.slice 1 (L.map fun s => [.str s])) (.slice a' L.length c') := (h.str _ hq).strs (fun _ _ => trivial) (by show L.length ≤ _; omega)
  refine (ref_SameS h1 h2).mono ?_
  rintro e W' ⟨rfl, hb⟩
  exact ⟨by simp, h.next hb⟩
end

set_option maxRecDepth 100000 in
set_option maxHeartbeats 40000000 in
theorem find_walk {w : World} {l : List LTuple} {v : Value} (hv : RepD (fun _ => True) w (.slice 6 (l.map LTuple.d)) v) (hs : Slc v) (hl : l.length ≤ 1048576) (x : LTuple) (most : Int) (hmost : (Lit.int .i64 most).wf = true) :
    Calls Tryz.prog 3 #[v, x.val, .int .i64 most] w fun e w' => e = .returned (.bool true) ∧ Below w.heap.size w w' := by
  generalize hw0 : w.alloc (.cells #[.string x.kind, .string x.id, .string x.rel, .string x.user.kind, .string x.user.id, .string x.user.rel] 26) = w0
  have hB0 : Below w.heap.size w w0 := by rw [← hw0]; exact (Below.refl _ w).alloc (Nat.le_refl _) _
  have hx0 : w0.heap[w.heap.size]? = some (.cells #[.string x.kind, .string x.id, .string x.rel, .string x.user.kind, .string x.user.id, .string x.user.rel] 26) := by rw [← hw0]; exact heap_alloc_at rfl
  have hlt0 : w.heap.size < w0.heap.size := (Array.getElem?_eq_some_iff.1 hx0).1
  have hv2 := hv.old (hB0.alloc hB0.size (.cells #[] 49))
  have hmade := own_made (w := w0) (N := w0.heap.size) rfl 49 6 LTuple.cells
  have HV := Lib.hid hv2; have HS := Lib.hid hs; have HM := Lib.hid hmade; have HX0 := Lib.hid hx0
  have HV0 := Lib.hid (hv.mono (A' := fun b => b < w.heap.size) (fun b _ hlt => hlt))
  clear hv2 hs hmade hv hx0 hmost
  unfold LTuple.val
  go_enter Tryz.func3, Tryz.ntmps3
  go_wp2_with (at_builtin; refine wpList_app_in (dd := LTuple.d) w0.heap.size rfl _ _ _ 49 _ 6 96 rfl Tryz.underlying22 info_tuple rfl (by omega) (by omega) LTuple.cells LTuple.len LTuple.one tuple_cell (.slice (some ⟨w0.heap.size, 0, none⟩) 0 0) v [] l rfl rfl HV.out HS.out HM.out (by simp) (by simp; omega) ?_; intro v1 w1 hO hb1)
  have hN := facts_New l v1 w1 (hO.tuples (A := fun _ => True) (fun _ _ => trivial) (by simp; omega))
  have HN := Lib.hid hN; clear hN hO HM
  go_wp2_with fail
  refine HN.out.mono ?_
  rintro r w2 ⟨fb, mb, rfl, hfb, hmb, hF, _, hb2⟩
  have hB2 : Below w0.heap.size w0 w2 := below_past (((Below.refl _ w0).alloc (Nat.le_refl _) (.cells #[] 49)).trans hb1) hb2
  have hBw : Below w.heap.size w w2 := below_past hB0 hB2
  have hbx := (hB2.block _ hlt0).trans HX0.out
  have ST := Lib.hid (show GSt w w2 fb mb (newS l) v l x (.slice none 0 0) [] [] [] [] from ⟨hF, hBw, HV0.out.old hBw, by refine ⟨?_, ?_, ?_, ?_, ?_, ?_⟩ <;> simp [World.cell?, hbx], OwnL.nil _ _ _ _ _, (fun p hp => by cases hp), (fun p hp => by cases hp), fun p hp => by cases hp⟩)
  clear hF HN HV HV0 hb1 hb2 hB0 hB2 hBw hfb hmb hbx HX0 hlt0 hw0
  have hlen : (newS l).length ≤ l.length := newS_len
  have hshort : fewB l = true → ∀ t, t ∈ canon tLess (newS l) → shortT t = true := fun h t ht => (few_all h).1 t (newS_sub ((mem_canon t _).1 ht))
  have c0 := fun W vm M (h : GSt w W fb mb (newS l) v l x vm M [] [] []) => g_Few h
  have n0 := fun W vm M (h : GSt w W fb mb (newS l) v l x vm M [] [] []) (hf : fewB l = true) => g_New h hf
  have hfew : fewB l = true → l.length ≤ 80 := fun h => (few_all h).2
  generalize newS l = S at *
  generalize fewB l = f1 at *
  have C0 := Lib.hid c0; have HFEW := Lib.hid hfew; have HLEN := Lib.hid hlen; have N0 := Lib.hid n0; have HSH := Lib.hid hshort
  clear c0 hfew hlen n0 hshort
  cases f1
  · go_wp2_with (first
      | (go_at_call 5; with_reducible refine (g_awake ST.out).mono ?_; rintro r w3 ⟨rfl, hx⟩; clear ST; have ST := Lib.hid hx; clear hx)
      | (go_at_call 6; with_reducible refine (C0.out _ _ _ ST.out).mono ?_; rintro r w3 ⟨rfl, hx⟩; clear ST; have ST := Lib.hid hx; clear hx))
    go_ret
    exact ⟨rfl, ST.out.below⟩
  have h80 : S.length ≤ 80 := Nat.le_trans HLEN.out (HFEW.out (by first | rfl | trivial))
  have hsh := HSH.out (by first | rfl | trivial)
  clear HLEN HFEW HSH
  go_wp2_with fail
  with_reducible refine (g_awake ST.out).mono ?_
  rintro r w3 ⟨rfl, hx⟩
  clear ST
  have ST := Lib.hid hx
  clear hx
  go_wp2_with fail
  with_reducible refine (C0.out _ _ _ ST.out).mono ?_
  rintro r w3 ⟨rfl, hx⟩
  clear ST
  have ST := Lib.hid hx
  clear hx
  go_wp2_with fail
  refine (N0.out _ _ _ ST.out (by first | rfl | trivial)).mono ?_
  rintro r w4 ⟨vm, rfl, hx⟩
  clear ST
  have ST := Lib.hid (hx.next (Below.refl _ w4).drew)
  clear hx C0 N0
  have hMl : (canon tLess S).length ≤ 1000 := Nat.le_trans (canon_length_le _) (by omega)
  have hul : (usersOf S x.kind x.id x.rel).length ≤ 1000000 := by unfold usersOf; rw [List.length_map]; exact Nat.le_trans (List.length_filter_le _ _) (by omega)
  have hol : (objectsOf S x.kind).length ≤ 1000000 := by unfold objectsOf; exact Nat.le_trans (canon_length_le _) (Nat.le_trans (objs_len _ _) (by omega))
  have hpl : (peopleOf S).length ≤ 1000000 := by unfold peopleOf; exact Nat.le_trans (canon_length_le _) (by simp; omega)
  have hll : (((canon tLess S).filter (meansB x)).take most.toNat).length ≤ 1000000 := by rw [List.length_take]; exact Nat.le_trans (Nat.min_le_right _ _) (Nat.le_trans (List.length_filter_le _ _) (by omega))
  have f1 := fun W A U T (h : GSt w W fb mb S v l x vm (canon tLess S) A U T) => g_Find h (by omega) most rfl
  have f2 := fun W A U T (h : GSt w W fb mb S v l x vm (canon tLess S) A U T) => g_rFind h hMl most rfl
  have u1 := fun W A U T (h : GSt w W fb mb S v l x vm (canon tLess S) A U T) => g_Users h (by omega) x.kind x.id x.rel rfl
  have u2 := fun W A U T (h : GSt w W fb mb S v l x vm (canon tLess S) A U T) => g_rUsers h hMl x.kind x.id x.rel (usersL_canon S x.kind x.id x.rel)
  have p1 := fun W A U T (h : GSt w W fb mb S v l x vm (canon tLess S) A U T) => g_People h (by omega) rfl
  have p2 := fun W A U T (h : GSt w W fb mb S v l x vm (canon tLess S) A U T) => g_rPeople h hMl hsh (peopleOf_canon S)
  have o1 := fun W A U T (h : GSt w W fb mb S v l x vm (canon tLess S) A U T) => g_Objects h (by omega) x.kind rfl
  have o2 := fun W A U T (h : GSt w W fb mb S v l x vm (canon tLess S) A U T) => g_rObjects h hMl hsh x.kind (objectsOf_canon S x.kind)
  clear hsh hMl
  generalize ((canon tLess S).filter (meansB x)).take most.toNat = L1 at *
  generalize usersOf S x.kind x.id x.rel = L2 at *
  generalize objectsOf S x.kind = L3 at *
  generalize peopleOf S = L4 at *
  generalize canon tLess S = M at *
  have F1 := Lib.hid f1; have F2 := Lib.hid f2; have U1 := Lib.hid u1; have U2 := Lib.hid u2; have P1 := Lib.hid p1; have P2 := Lib.hid p2; have O1 := Lib.hid o1; have O2 := Lib.hid o2
  clear f1 f2 u1 u2 p1 p2 o1 o2
  go_wp2_with fail
  go_region_held3 (fun W => W.cell? ⟨w.heap.size, 0, none⟩ = some (.string x.kind) ∧ W.cell? ⟨w.heap.size, 1, none⟩ = some (.string x.id) ∧ W.cell? ⟨w.heap.size, 2, none⟩ = some (.string x.rel) ∧ W.cell? ⟨w.heap.size, 3, none⟩ = some (.string x.user.kind) ∧ W.cell? ⟨w.heap.size, 4, none⟩ = some (.string x.user.id) ∧ W.cell? ⟨w.heap.size, 5, none⟩ = some (.string x.user.rel))
    (exact ST.out.xs)
    (first
      | (go_at_call 9; with_reducible refine (F1.out _ _ _ _ ST.out).mono ?_; rintro r W' ⟨_, _, rfl, hx⟩; clear ST; have ST := Lib.hid hx; clear hx)
      | (go_at_call 10; with_reducible refine (F2.out _ _ _ _ ST.out).mono ?_; rintro r W' ⟨_, _, rfl, hx⟩; clear ST; have ST := Lib.hid hx; clear hx)
      | (go_at_call 8; refine (g_Same ST.out (by simp) (by simp) (by omega)).mono ?_; rintro r W' ⟨rfl, hx⟩; clear ST; have ST := Lib.hid hx; clear hx)
      | (go_at_call 12; with_reducible refine (U1.out _ _ _ _ ST.out).mono ?_; rintro r W' ⟨_, _, rfl, hx⟩; clear ST; have ST := Lib.hid hx; clear hx)
      | (go_at_call 13; with_reducible refine (U2.out _ _ _ _ ST.out).mono ?_; rintro r W' ⟨_, _, rfl, hx⟩; clear ST; have ST := Lib.hid hx; clear hx)
      | (go_at_call 11; refine (g_SameUsers ST.out (by simp) (by simp) (by omega)).mono ?_; rintro r W' ⟨rfl, hx⟩; clear ST; have ST := Lib.hid hx; clear hx)
      | (go_at_call 15; with_reducible refine (O1.out _ _ _ _ ST.out).mono ?_; rintro r W' ⟨_, _, rfl, hx⟩; clear ST; have ST := Lib.hid hx; clear hx)
      | (go_at_call 16; with_reducible refine (O2.out _ _ _ _ ST.out).mono ?_; rintro r W' ⟨_, _, rfl, hx⟩; clear ST; have ST := Lib.hid hx; clear hx)
      | (go_at_call 14; refine (g_SameS ST.out (by simp) (by simp) (by omega)).mono ?_; rintro r W' ⟨rfl, hx⟩; clear ST; have ST := Lib.hid hx; clear hx)
      | (go_at_call 17; with_reducible refine (P1.out _ _ _ _ ST.out).mono ?_; rintro r W' ⟨_, _, rfl, hx⟩; clear ST; have ST := Lib.hid hx; clear hx)
      | (go_at_call 18; with_reducible refine (P2.out _ _ _ _ ST.out).mono ?_; rintro r W' ⟨_, _, rfl, hx⟩; clear ST; have ST := Lib.hid hx; clear hx))
  all_goals
    go_wp2
    go_ret
    exact ⟨rfl, ST.out.below⟩
end Go.Proofs.YtnfkjodiielidaaGreat

/- FactsNarrow: the walk. -/
import Derived.Test.YtnfkjodiielidaaWlusers
import Derived.Test.YtnfkjodiielidaaCut
import Derived.Test.YtnfkjodiielidaaWsame
namespace Go.Proofs.Ytnfkjodiielidaa
set_option linter.unusedVariables false
set_option linter.unusedSimpArgs false
open Go.RowKit

/-- Where the law stands: the set, the list, what was found so far, the filter's boxes. -/
structure NSt (w W : World) (fb mb : Nat) (S : List LTuple) (v : Value) (l : List LTuple) (A : List (Option Addr × Nat × List LTuple)) : Prop where
  st : LSt w W fb mb S v l
  own : ∀ p, p ∈ A → OwnL W w.heap.size 32 6 LTuple.cells (.slice p.1 p.2.2.length p.2.1) p.2.2
section
variable {w W W' : World} {fb mb : Nat} {S : List LTuple} {v : Value} {l : List LTuple} {A : List (Option Addr × Nat × List LTuple)}
theorem NSt.next (h : NSt w W fb mb S v l A) (hb : Below W.heap.size W W') : NSt w W' fb mb S v l A := ⟨h.st.next hb, fun p hp => (h.own p hp).below hb⟩
theorem n_awake (h : NSt w W fb mb S v l A) : Calls Try.prog 9 #[] W fun e W' => e = .returned (.bool true) ∧ NSt w W' fb mb S v l A := by
  refine (awake_true W).mono ?_
  rintro e W' ⟨rfl, hb⟩
  exact ⟨rfl, h.next hb⟩
theorem n_Few (h : NSt w W fb mb S v l A) : Calls Try.prog 10 #[v] W fun e W' => e = .returned (.bool (fewB l)) ∧ NSt w W' fb mb S v l A := by
  refine (ref_Few h.st.rep).mono ?_
  rintro e W' ⟨rfl, hb⟩
  exact ⟨rfl, h.next hb⟩
theorem n_Find (h : NSt w W fb mb S v l A) (hS : S.length ≤ 1000000000000) (x : LTuple) (most : Int) {L : List LTuple} (hL : ((canon tLess S).filter (meansB x)).take most.toNat = L) :
    Calls Try.prog 23 #[.pointer (some ⟨fb, 0, none⟩), x.val, .int .i64 most] W fun e W' => ∃ a c, e = .returned (.slice a L.length c) ∧ NSt w W' fb mb S v l ((a, c, L) :: A) := by
  subst hL
  refine (facts_Find h.st.facts hS x most).mono ?_
  rintro e W' ⟨u, rfl, ho, hb⟩
  obtain ⟨a, c, rfl, _⟩ := ho.form
  refine ⟨a, c, rfl, h.st.next hb, fun p hp => ?_⟩
  rcases List.mem_cons.1 hp with rfl | hp
  · exact ho.rebase h.st.below.size
  · exact (h.own p hp).below hb
theorem n_Has (h : NSt w W fb mb S v l A) {p : Option Addr × Nat × List LTuple} (hp : p ∈ A) (hl : p.2.2.length ≤ 1000000) (z : LTuple) (hz : z ∈ p.2.2) : Calls Try.prog 12 #[.slice p.1 p.2.2.length p.2.1, z.val] W fun e W' => e = .returned (.bool true) ∧ NSt w W' fb mb S v l A := by
  refine (ref_Has ((h.own p hp).tuples (A := fun _ => True) (fun _ _ => trivial) (by omega)) z).mono ?_
  rintro e W' ⟨rfl, hb⟩
  exact ⟨by rw [decide_eq_true hz], h.next hb⟩
theorem n_Same (h : NSt w W fb mb S v l A) {p q : Option Addr × Nat × List LTuple} (hp : p ∈ A) (hq : q ∈ A) (hl : p.2.2.length ≤ 1000000) (hl2 : q.2.2.length ≤ 1000000) (hm : p.2.2.length ≤ q.2.2.length) (he : p.2.2 = q.2.2.take p.2.2.length) :
    Calls Try.prog 18 #[.slice p.1 p.2.2.length p.2.1, .slice q.1 p.2.2.length q.2.1] W fun e W' => e = .returned (.bool true) ∧ NSt w W' fb mb S v l A := by
  have h1 := (h.own p hp).tuples (A := fun _ => True) (fun _ _ => trivial) (by omega)
  have h2 := ((h.own q hq).cutL LTuple.len hm).tuples (A := fun _ => True) (fun _ _ => trivial) (by simp; omega)
  refine (ref_Same h1 h2).mono ?_
  rintro e W' ⟨rfl, hb⟩
  exact ⟨by rw [decide_eq_true he], h.next hb⟩
end
/-- The filter that tells more. -/
def moreF (x t : LTuple) : LTuple := ⟨x.kind, if x.id = ⟨#[]⟩ then t.id else x.id, x.rel, ⟨x.user.kind, if x.user.id = ⟨#[]⟩ then t.user.id else x.user.id, x.user.rel⟩⟩
theorem means_more (x t z : LTuple) (h : meansB (moreF x t) z = true) : meansB x z = true := by
  have h1 : isB.sNil = ⟨#[]⟩ := rfl
  unfold meansB isB moreF at *
  rw [h1] at *
  simp only [Bool.and_eq_true, Bool.or_eq_true, decide_eq_true_eq] at *
  obtain ⟨⟨⟨⟨⟨a, b⟩, c⟩, d⟩, e⟩, f⟩ := h
  refine ⟨⟨⟨⟨⟨a, ?_⟩, c⟩, d⟩, ?_⟩, f⟩
  · by_cases hx : x.id = ⟨#[]⟩
    · exact .inl hx
    · rw [if_neg hx] at b; exact b
  · by_cases hx : x.user.id = ⟨#[]⟩
    · exact .inl hx
    · rw [if_neg hx] at e; exact e
theorem own_place {α : Type} {enc : α → List Value} {k : Nat} {w : World} {base : Nat} {e : TypeId} {a : Option Addr} {n c : Nat} {xs : List α} (h : OwnL w base e k enc (.slice a n c) xs) (h0 : 0 < xs.length) : ∃ b, a = some ⟨b, 0, none⟩ := by
  rcases h.2 with ⟨_, h1⟩ | ⟨g, cap, cur, hn, _⟩
  · omega
  · injection hn with e1
    exact ⟨g, e1⟩
theorem own_cells6 {w : World} {base b n c : Nat} {e : TypeId} {xs : List LTuple} (h : OwnL w base e 6 LTuple.cells (.slice (some ⟨b, 0, none⟩) n c) xs) {q : Nat} (hq : q < xs.length) :
    w.cell? ⟨b, q * 6, none⟩ = some (.string xs[q].kind) ∧ w.cell? ⟨b, q * 6 + 1, none⟩ = some (.string xs[q].id) ∧ w.cell? ⟨b, q * 6 + 2, none⟩ = some (.string xs[q].rel) ∧ w.cell? ⟨b, q * 6 + 3, none⟩ = some (.string xs[q].user.kind) ∧ w.cell? ⟨b, q * 6 + 4, none⟩ = some (.string xs[q].user.id) ∧ w.cell? ⟨b, q * 6 + 5, none⟩ = some (.string xs[q].user.rel) :=
  ⟨h.cellAt LTuple.len hq (j := 0) (by omega) rfl, h.cellAt LTuple.len hq (j := 1) (by omega) rfl, h.cellAt LTuple.len hq (j := 2) (by omega) rfl, h.cellAt LTuple.len hq (j := 3) (by omega) rfl, h.cellAt LTuple.len hq (j := 4) (by omega) rfl, h.cellAt LTuple.len hq (j := 5) (by omega) rfl⟩
theorem own_cap {α : Type} {enc : α → List Value} {k : Nat} {w : World} {base : Nat} {e : TypeId} {a : Option Addr} {n c : Nat} {xs : List α} (h : OwnL w base e k enc (.slice a n c) xs) : xs.length ≤ c := by
  obtain ⟨a', c', hv, h1, _⟩ := h.form
  injection hv with e1 e2 e3
  omega
theorem take_facts {α : Type} (l : List α) {i j : Nat} (h : i ≤ j) : (l.take i).length ≤ (l.take j).length ∧ l.take i = (l.take j).take (l.take i).length ∧ l.take j = l.take (l.take j).length := by
  refine ⟨by simp; omega, ?_, ?_⟩
  · rw [List.take_take, List.length_take, List.take_eq_take_min, Nat.min_eq_left (show min i l.length ≤ j by omega)]
  · rw [List.length_take, ← List.take_eq_take_min]
theorem wrap_le {n0 n1 : Int} (h0 : 0 ≤ n0 ∧ n0 ≤ 255) (h1 : 0 ≤ n1 ∧ n1 ≤ 255) : (IntKind.i64.wrap (min n0 n1)).toNat ≤ (IntKind.i64.wrap (max n0 n1)).toNat := by
  have a : IntKind.i64.wrap (min n0 n1) = min n0 n1 := by simp [IntKind.wrap, IntKind.bits, IntKind.signed]; omega
  have b : IntKind.i64.wrap (max n0 n1) = max n0 n1 := by simp [IntKind.wrap, IntKind.bits, IntKind.signed]; omega
  rw [a, b]
  omega
/-- A tuple's, or a filter's, cells. -/
def Cells6 (W : World) (b : Nat) (t : LTuple) : Prop :=
  W.cell? ⟨b, 0, none⟩ = some (.string t.kind) ∧ W.cell? ⟨b, 1, none⟩ = some (.string t.id) ∧ W.cell? ⟨b, 2, none⟩ = some (.string t.rel) ∧ W.cell? ⟨b, 3, none⟩ = some (.string t.user.kind) ∧ W.cell? ⟨b, 4, none⟩ = some (.string t.user.id) ∧ W.cell? ⟨b, 5, none⟩ = some (.string t.user.rel)
theorem Cells6.next {W W' : World} {b : Nat} {t : LTuple} (h : Cells6 W b t) (hb : Below W.heap.size W W') : Cells6 W' b t := by
  have hlt : b < W.heap.size := World.block_lt_of_cell? _ _ h.1
  have hc : ∀ j, W'.cell? ⟨b, j, none⟩ = W.cell? ⟨b, j, none⟩ := fun j => hb.cell (p := ⟨b, j, none⟩) hlt
  unfold Cells6
  simp only [hc]
  exact h
theorem cells6_box {W : World} {b : Nat} {t : LTuple} {e : TypeId} (h : W.heap[b]? = some (.cells #[.string t.kind, .string t.id, .string t.rel, .string t.user.kind, .string t.user.id, .string t.user.rel] e)) : Cells6 W b t := by
  refine ⟨?_, ?_, ?_, ?_, ?_, ?_⟩ <;> simp [World.cell?, h]
/-- The law's boxes: the filter x, the tuple t, the two numbers; y: the filter that tells more, where it is made already. -/
structure BSt (w W : World) (fb mb : Nat) (S : List LTuple) (v : Value) (l : List LTuple) (A : List (Option Addr × Nat × List LTuple)) (x t : LTuple) (n0 n1 : Int) (Y : List (Nat × LTuple)) : Prop where
  st : NSt w W fb mb S v l A
  xs : Cells6 W w.heap.size x
  ts : Cells6 W (w.heap.size + 1) t
  ns : W.cell? ⟨w.heap.size + 1 + 1, 0, none⟩ = some (.int .u8 n0) ∧ W.cell? ⟨w.heap.size + 1 + 1, 1, none⟩ = some (.int .u8 n1)
  ys : ∀ p, p ∈ Y → Cells6 W p.1 p.2
section
variable {w W W' : World} {fb mb : Nat} {S : List LTuple} {v : Value} {l : List LTuple} {A : List (Option Addr × Nat × List LTuple)} {x t : LTuple} {n0 n1 : Int} {Y : List (Nat × LTuple)}
theorem BSt.next' (h : BSt w W fb mb S v l A x t n0 n1 Y) {A' : List (Option Addr × Nat × List LTuple)} (hb : Below W.heap.size W W') (hs : NSt w W' fb mb S v l A') : BSt w W' fb mb S v l A' x t n0 n1 Y :=
  ⟨hs, h.xs.next hb, h.ts.next hb, ⟨(hb.cell (World.block_lt_of_cell? _ _ h.ns.1)).trans h.ns.1, (hb.cell (World.block_lt_of_cell? _ _ h.ns.2)).trans h.ns.2⟩, fun p hp => (h.ys p hp).next hb⟩
theorem BSt.next (h : BSt w W fb mb S v l A x t n0 n1 Y) (hb : Below W.heap.size W W') : BSt w W' fb mb S v l A x t n0 n1 Y := h.next' hb (h.st.next hb)
theorem BSt.sub (h : BSt w W fb mb S v l A x t n0 n1 Y) {A' : List (Option Addr × Nat × List LTuple)} (hA : ∀ p, p ∈ A' → p ∈ A) : BSt w W fb mb S v l A' x t n0 n1 Y := ⟨⟨h.st.st, fun p hp => h.st.own p (hA p hp)⟩, h.xs, h.ts, h.ns, h.ys⟩
theorem BSt.made (h : BSt w W fb mb S v l A x t n0 n1 []) (y : LTuple) : BSt w (W.alloc (.cells #[.string y.kind, .string y.id, .string y.rel, .string y.user.kind, .string y.user.id, .string y.user.rel] 49)) fb mb S v l A x t n0 n1 [(W.heap.size, y)] := by
  have h1 := h.next ((Below.refl _ W).alloc (Nat.le_refl _) (.cells #[.string y.kind, .string y.id, .string y.rel, .string y.user.kind, .string y.user.id, .string y.user.rel] 49))
  refine ⟨h1.st, h1.xs, h1.ts, h1.ns, fun p hp => ?_⟩
  obtain rfl : p = (W.heap.size, y) := by simpa using hp
  exact cells6_box (heap_alloc_at rfl)
theorem b_awake (h : BSt w W fb mb S v l A x t n0 n1 Y) : Calls Try.prog 9 #[] W fun e W' => e = .returned (.bool true) ∧ BSt w W' fb mb S v l A x t n0 n1 Y := by
  refine (awake_true W).mono ?_
  rintro e W' ⟨rfl, hb⟩
  exact ⟨rfl, h.next hb⟩
theorem b_Few (h : BSt w W fb mb S v l A x t n0 n1 Y) : Calls Try.prog 10 #[v] W fun e W' => e = .returned (.bool (fewB l)) ∧ BSt w W' fb mb S v l A x t n0 n1 Y := by
  refine (ref_Few h.st.st.rep).mono ?_
  rintro e W' ⟨rfl, hb⟩
  exact ⟨rfl, h.next hb⟩
theorem b_Find (h : BSt w W fb mb S v l A x t n0 n1 Y) (hS : S.length ≤ 1000000000000) (z : LTuple) (most : Int) {L : List LTuple} (hL : ((canon tLess S).filter (meansB z)).take most.toNat = L) :
    Calls Try.prog 23 #[.pointer (some ⟨fb, 0, none⟩), .agg #[.string z.kind, .string z.id, .string z.rel, .string z.user.kind, .string z.user.id, .string z.user.rel], .int .i64 most] W fun e W' => ∃ a c, e = .returned (.slice a L.length c) ∧ BSt w W' fb mb S v l ((a, c, L) :: A) x t n0 n1 Y := by
  subst hL
  refine (facts_Find h.st.st.facts hS z most).mono ?_
  rintro e W' ⟨u, rfl, ho, hb⟩
  obtain ⟨a, c, rfl, _⟩ := ho.form
  refine ⟨a, c, rfl, h.next' hb ⟨h.st.st.next hb, fun p hp => ?_⟩⟩
  rcases List.mem_cons.1 hp with rfl | hp
  · exact ho.rebase h.st.st.below.size
  · exact (h.st.own p hp).below hb
theorem b_Has (h : BSt w W fb mb S v l A x t n0 n1 Y) {a : Option Addr} {c : Nat} {L : List LTuple} (hp : (a, c, L) ∈ A) (hl : L.length ≤ 1000000) (z : LTuple) (hz : z ∈ L) : Calls Try.prog 12 #[.slice a L.length c, .agg #[.string z.kind, .string z.id, .string z.rel, .string z.user.kind, .string z.user.id, .string z.user.rel]] W fun e W' => e = .returned (.bool true) ∧ BSt w W' fb mb S v l A x t n0 n1 Y := by
  refine (ref_Has (show RepD (fun _ => True) W (.slice 6 (L.map LTuple.d)) (.slice a L.length c) from (h.st.own _ hp).tuples (fun _ _ => trivial) (by show L.length ≤ _; omega)) z).mono ?_
  rintro e W' ⟨rfl, hb⟩
  exact ⟨by rw [decide_eq_true hz], h.next hb⟩
theorem b_Same (h : BSt w W fb mb S v l A x t n0 n1 Y) {a a' : Option Addr} {c c' : Nat} {L L' : List LTuple} (hp : (a, c, L) ∈ A) (hq : (a', c', L') ∈ A) (hl : L.length ≤ 1000000) (hm : L.length ≤ L'.length) (he : L = L'.take L.length) :
    Calls Try.prog 18 #[.slice a L.length c, .slice a' L.length c'] W fun e W' => e = .returned (.bool true) ∧ BSt w W' fb mb S v l A x t n0 n1 Y := by
  have h1 : RepD (fun _ => True) W (.slice 6 (L.map LTuple.d)) (.slice a L.length c) := (h.st.own _ hp).tuples (fun _ _ => trivial) (by show L.length ≤ _; omega)
  have h2 := ((h.st.own _ hq).cutL LTuple.len hm).tuples (A := fun _ => True) (fun _ _ => trivial) (by simp; omega)
  refine (ref_Same h1 h2).mono ?_
  rintro e W' ⟨rfl, hb⟩
  exact ⟨by rw [decide_eq_true he], h.next hb⟩
end

set_option maxRecDepth 100000 in
set_option maxHeartbeats 40000000 in
theorem narrow_walk {w : World} {l : List LTuple} {v : Value} (hv : RepD (fun _ => True) w (.slice 6 (l.map LTuple.d)) v) (hs : Slc v) (hl : l.length ≤ 1048576) (x t : LTuple) (n0 n1 : Int) (hn0 : 0 ≤ n0 ∧ n0 ≤ 255) (hn1 : 0 ≤ n1 ∧ n1 ≤ 255) :
    Calls Try.prog 6 #[v, x.val, t.val, .agg #[.int .u8 n0, .int .u8 n1]] w fun e w' => e = .returned (.bool true) ∧ Below w.heap.size w w' := by
  generalize hw0 : ((w.alloc (.cells #[.string x.kind, .string x.id, .string x.rel, .string x.user.kind, .string x.user.id, .string x.user.rel] 49)).alloc (.cells #[.string t.kind, .string t.id, .string t.rel, .string t.user.kind, .string t.user.id, .string t.user.rel] 32)).alloc (.cells #[.int .u8 n0, .int .u8 n1] 51) = w0
  have hB0 : Below w.heap.size w w0 := by rw [← hw0]; exact (((Below.refl _ w).alloc (Nat.le_refl _) _).alloc (by simp) _).alloc (by simp; omega) _
  have hsz : w0.heap.size = w.heap.size + 1 + 1 + 1 := by rw [← hw0]; simp
  have hx0 : Cells6 w0 w.heap.size x := cells6_box (by rw [← hw0]; exact (Below.heap_alloc _ _ _ (by simp; omega)).trans ((Below.heap_alloc _ _ _ (by simp)).trans (heap_alloc_at rfl)))
  have ht0 : Cells6 w0 (w.heap.size + 1) t := cells6_box (by rw [← hw0]; exact (Below.heap_alloc _ _ _ (by simp)).trans (heap_alloc_at (by simp)))
  have hn : w0.cell? ⟨w.heap.size + 1 + 1, 0, none⟩ = some (.int .u8 n0) ∧ w0.cell? ⟨w.heap.size + 1 + 1, 1, none⟩ = some (.int .u8 n1) := by
    have h : w0.heap[w.heap.size + 1 + 1]? = some (.cells #[.int .u8 n0, .int .u8 n1] 51) := by rw [← hw0]; exact heap_alloc_at (by simp)
    constructor <;> simp [World.cell?, h]
  have hv2 := hv.old (hB0.alloc hB0.size (.cells #[] 32))
  have hmade := own_made (w := w0) (N := w0.heap.size) rfl 32 6 LTuple.cells
  have HV := Lib.hid hv2; have HS := Lib.hid hs; have HM := Lib.hid hmade; have HSZ := Lib.hid hsz; have HX0 := Lib.hid hx0; have HT0 := Lib.hid ht0; have HN0 := Lib.hid hn
  have HV0 := Lib.hid (hv.mono (A' := fun b => b < w.heap.size) (fun b _ hlt => hlt))
  clear hv2 hs hmade hv hx0 ht0 hn hsz
  unfold LTuple.val
  go_enter Try.func6, Try.ntmps6
  go_wp2_with (at_builtin; refine wpList_app_in (dd := LTuple.d) w0.heap.size rfl _ _ _ 32 _ 6 96 rfl Try.underlying22 info_tuple rfl (by omega) (by omega) LTuple.cells LTuple.len LTuple.one tuple_cell (.slice (some ⟨w0.heap.size, 0, none⟩) 0 0) v [] l rfl rfl HV.out HS.out HM.out (by simp) (by simp; omega) ?_; intro v1 w1 hO hb1)
  have hN := facts_New l v1 w1 (hO.tuples (A := fun _ => True) (fun _ _ => trivial) (by simp; omega))
  have HN := Lib.hid hN; clear hN hO HM
  go_wp2_with fail
  refine HN.out.mono ?_
  rintro r w2 ⟨fb, mb, rfl, hfb, hmb, hF, _, hb2⟩
  have hB1 : Below w0.heap.size w0 w1 := ((Below.refl _ w0).alloc (Nat.le_refl _) (.cells #[] 32)).trans hb1
  have hB2 : Below w0.heap.size w0 w2 := below_past hB1 hb2
  have hBw : Below w.heap.size w w2 := below_past hB0 hB2
  have hst : NSt w w2 fb mb (newS l) v l [] := ⟨⟨hF, hBw, HV0.out.old hBw⟩, fun p hp => by cases hp⟩
  have ST := Lib.hid (show BSt w w2 fb mb (newS l) v l [] x t n0 n1 [] from ⟨hst, HX0.out.next hB2, HT0.out.next hB2, ⟨(hB2.cell (World.block_lt_of_cell? _ _ HN0.out.1)).trans HN0.out.1, (hB2.cell (World.block_lt_of_cell? _ _ HN0.out.2)).trans HN0.out.2⟩, fun p hp => by cases hp⟩)
  clear hF HN HV HV0 hb1 hb2 hB0 hB1 hB2 hBw hfb hmb hst HX0 HT0 HN0 HSZ hw0
  have hlen : (newS l).length ≤ l.length := newS_length_le l
  generalize newS l = S at *
  have c0 := fun W (h : BSt w W fb mb S v l [] x t n0 n1 []) => b_Few h
  have hfew : fewB l = true → l.length ≤ 80 := few_length
  generalize fewB l = f1 at *
  have C0 := Lib.hid c0; have HFEW := Lib.hid hfew; have HLEN := Lib.hid hlen
  clear c0 hfew hlen
  cases f1
  · go_wp2_with (first
      | (go_at_call 9; with_reducible refine (b_awake ST.out).mono ?_; rintro r w3 ⟨rfl, hx⟩; clear ST; have ST := Lib.hid hx; clear hx)
      | (go_at_call 10; with_reducible refine (C0.out _ ST.out).mono ?_; rintro r w3 ⟨rfl, hx⟩; clear ST; have ST := Lib.hid hx; clear hx))
    go_ret
    exact ⟨rfl, ST.out.st.st.below⟩
  have h80 : S.length ≤ 80 := Nat.le_trans HLEN.out (HFEW.out rfl)
  have hfi := fun W A Y (h : BSt w W fb mb S v l A x t n0 n1 Y) z most L (hL : ((canon tLess S).filter (meansB z)).take (Int.toNat most) = L) => b_Find h (by omega) z most hL
  have HFI := Lib.hid hfi; clear hfi HFEW HLEN
  by_cases hi : x.id = ⟨#[]⟩
  · by_cases hu : x.user.id = ⟨#[]⟩
    · obtain ⟨i1, i2⟩ := empty_yes hi
      obtain ⟨u1, u2⟩ := empty_yes hu
      have hmore : ∀ z, meansB ⟨x.kind, t.id, x.rel, ⟨x.user.kind, t.user.id, x.user.rel⟩⟩ z = true → meansB x z = true := fun z hz => means_more x t z (by simpa only [moreF, hi, hu, if_true, if_false] using hz)
      have HMORE := Lib.hid hmore
      clear hi hu hmore
      go_wp2_with fail
      with_reducible refine (b_awake ST.out).mono ?_
      rintro r w3 ⟨rfl, hx⟩
      clear ST
      have ST := Lib.hid hx
      clear hx
      go_wp2_with fail
      with_reducible refine (C0.out _ ST.out).mono ?_
      rintro r w3 ⟨rfl, hx⟩
      clear ST
      have ST := Lib.hid hx
      clear hx
      obtain ⟨x0, x1, x2, x3, x4, x5⟩ := ST.out.xs
      obtain ⟨t0, t1, t2, t3, t4, t5⟩ := ST.out.ts
      have hlt1 : w.heap.size + 1 < w3.heap.size := World.block_lt_of_cell? _ _ t0
      have hlt0 : w.heap.size < w3.heap.size := by omega
      go_wp2_with fail
      have ST2 := Lib.hid (BSt.made ST.out ⟨x.kind, t.id, x.rel, ⟨x.user.kind, t.user.id, x.user.rel⟩⟩)
      clear ST x0 x1 x2 x3 x4 x5 t0 t1 t2 t3 t4 t5 hlt0 hlt1 i1 i2 u1 u2
      obtain ⟨y, hyd⟩ : ∃ y : LTuple, y = ⟨x.kind, t.id, x.rel, ⟨x.user.kind, t.user.id, x.user.rel⟩⟩ := ⟨_, rfl⟩
      rw [← hyd] at HMORE
      have ST := Lib.hid (show BSt w (w3.alloc (.cells #[.string x.kind, .string t.id, .string x.rel, .string x.user.kind, .string t.user.id, .string x.user.rel] 49)) fb mb S v l [] x t n0 n1 [(w3.heap.size, y)] from by rw [hyd]; exact ST2.out)
      clear hyd ST2
      generalize w3.alloc (.cells #[.string x.kind, .string t.id, .string x.rel, .string x.user.kind, .string t.user.id, .string x.user.rel] 49) = W3 at *
      generalize w3.heap.size = yb at *
      have hLW : ((canon tLess S).filter (meansB x)).length ≤ 80 := Nat.le_trans (List.length_filter_le _ _) (Nat.le_trans (canon_length_le _) h80)
      have hLN : ((canon tLess S).filter (meansB y)).length ≤ 80 := Nat.le_trans (List.length_filter_le _ _) (Nat.le_trans (canon_length_le _) h80)
      have hsub : ∀ z, z ∈ (canon tLess S).filter (meansB y) → z ∈ (canon tLess S).filter (meansB x) := fun z hz => by
        rw [List.mem_filter] at hz ⊢
        exact ⟨hz.1, HMORE.out z hz.2⟩
      have hfw := fun W A Y (h : BSt w W fb mb S v l A x t n0 n1 Y) => HFI.out W A Y h x 1000 ((canon tLess S).filter (meansB x)) (List.take_of_length_le (by simp; omega))
      have hfn := fun W A Y (h : BSt w W fb mb S v l A x t n0 n1 Y) => HFI.out W A Y h y 1000 ((canon tLess S).filter (meansB y)) (List.take_of_length_le (by simp; omega))
      have hfm := fun W A Y (h : BSt w W fb mb S v l A x t n0 n1 Y) => HFI.out W A Y h x (IntKind.i64.wrap (min n0 n1)) (((canon tLess S).filter (meansB x)).take (IntKind.i64.wrap (min n0 n1)).toNat) rfl
      have hfx := fun W A Y (h : BSt w W fb mb S v l A x t n0 n1 Y) => HFI.out W A Y h x (IntKind.i64.wrap (max n0 n1)) (((canon tLess S).filter (meansB x)).take (IntKind.i64.wrap (max n0 n1)).toNat) rfl
      generalize (canon tLess S).filter (meansB x) = Wl at *
      obtain ⟨hab1, hab2, hab3⟩ := take_facts Wl (wrap_le hn0 hn1)
      have hLB : (Wl.take (IntKind.i64.wrap (max n0 n1)).toNat).length ≤ Wl.length := by simp; omega
      generalize Wl.take (IntKind.i64.wrap (min n0 n1)).toNat = LA at *
      generalize Wl.take (IntKind.i64.wrap (max n0 n1)).toNat = LB at *
      have HAB2 := Lib.hid hab2; have HAB3 := Lib.hid hab3; clear hab2 hab3
      generalize (canon tLess S).filter (meansB y) = Nl at *
      have HFW := Lib.hid hfw; have HFN := Lib.hid hfn; have HFM := Lib.hid hfm; have HFX := Lib.hid hfx; have HSUB := Lib.hid hsub
      clear hfw hfn hfm hfx hsub HMORE HFI
      have ST1 := ST
      clear ST
      have ST := Lib.hid (ST1.out.next (Below.refl _ W3).drew)
      clear ST1
      go_region_held3 (fun W => (W.cell? ⟨w.heap.size, 0, none⟩ = some (.string x.kind) ∧ W.cell? ⟨w.heap.size, 1, none⟩ = some (.string x.id) ∧ W.cell? ⟨w.heap.size, 2, none⟩ = some (.string x.rel) ∧ W.cell? ⟨w.heap.size, 3, none⟩ = some (.string x.user.kind) ∧ W.cell? ⟨w.heap.size, 4, none⟩ = some (.string x.user.id) ∧ W.cell? ⟨w.heap.size, 5, none⟩ = some (.string x.user.rel)) ∧
          (W.cell? ⟨yb, 0, none⟩ = some (.string y.kind) ∧ W.cell? ⟨yb, 1, none⟩ = some (.string y.id) ∧ W.cell? ⟨yb, 2, none⟩ = some (.string y.rel) ∧ W.cell? ⟨yb, 3, none⟩ = some (.string y.user.kind) ∧ W.cell? ⟨yb, 4, none⟩ = some (.string y.user.id) ∧ W.cell? ⟨yb, 5, none⟩ = some (.string y.user.rel)))
        (exact ⟨ST.out.xs, ST.out.ys (yb, y) (by simp)⟩)
        (first
          | (go_at_call 23; with_reducible refine (HFW.out _ _ _ ST.out).mono ?_; rintro r W' ⟨aw, cw, rfl, hx⟩; clear ST; have ST := Lib.hid hx; clear hx)
          | (go_at_call 23; with_reducible refine (HFN.out _ _ _ ST.out).mono ?_; rintro r W' ⟨an, cn, rfl, hx⟩; clear ST; have ST := Lib.hid hx; clear hx))
      all_goals
        have ST2 := Lib.hid (ST.out.sub (A' := [(aw, cw, Wl), (an, cn, Nl)]) (by intro p hp; simp at hp ⊢; rcases hp with h | h <;> simp [h]))
        clear ST
        go_wp2
        go_loopw [13] (fun i wr => ∃ q : Nat, q ≤ Nl.length ∧ i = .int .i64 q ∧ Aside (BSt w wr fb mb S v l [(aw, cw, Wl), (an, cn, Nl)] x t n0 n1 [(yb, y)])) (fun i _ => Nl.length - (intOf i).toNat)
        case atStart => exact ⟨0, by omega, rfl, ⟨ST2.out⟩⟩
        case round =>
          obtain ⟨q, hq, rfl, hU⟩ := hrel
          by_cases hlt : q < Nl.length
          · have hown : OwnL wr w.heap.size 32 6 LTuple.cells (.slice an Nl.length cn) Nl := hU.out.st.own (an, cn, Nl) (by simp)
            obtain ⟨b, rfl⟩ := own_place hown (by omega)
            obtain ⟨e0, e1, e2, e3, e4, e5⟩ := own_cells6 hown hlt
            have hzm := HSUB.out _ (List.getElem_mem hlt)
            generalize Nl[q] = z at *
            have HU := Lib.hid hU.out
            clear hU hown ST2
            go_wp2_with (go_at_call 12; with_reducible refine (b_Has HU.out (a := aw) (c := cw) (L := Wl) (by simp) (by omega) z hzm).mono ?_; rintro r W' ⟨rfl, hx⟩; have HX := Lib.hid hx; clear hx)
            first
              | exact ⟨⟨q + 1, by omega, by go_num, ⟨HX.out⟩⟩, by simp [intOf] <;> omega⟩
              | (go_roundw
                 case rel => exact ⟨q + 1, by omega, by go_num, ⟨HX.out⟩⟩
                 case measure => simp [intOf]; omega)
          · have ST := Lib.hid (hU.out.next (Below.refl _ wr).drew)
            clear hU ST2
            go_wp2_with fail
            go_region_held3 (fun W => (W.cell? ⟨w.heap.size, 0, none⟩ = some (.string x.kind) ∧ W.cell? ⟨w.heap.size, 1, none⟩ = some (.string x.id) ∧ W.cell? ⟨w.heap.size, 2, none⟩ = some (.string x.rel) ∧ W.cell? ⟨w.heap.size, 3, none⟩ = some (.string x.user.kind) ∧ W.cell? ⟨w.heap.size, 4, none⟩ = some (.string x.user.id) ∧ W.cell? ⟨w.heap.size, 5, none⟩ = some (.string x.user.rel)) ∧
                W.cell? ⟨w.heap.size + 1 + 1, 0, none⟩ = some (.int .u8 n0) ∧ W.cell? ⟨w.heap.size + 1 + 1, 1, none⟩ = some (.int .u8 n1))
              (exact ⟨ST.out.xs, ST.out.ns⟩)
              (first
                | (go_at_call 23; with_reducible refine (HFM.out _ _ _ ST.out).mono ?_; rintro r W' ⟨am, cm, rfl, hx⟩; clear ST; have ST := Lib.hid hx; clear hx)
                | (go_at_call 23; with_reducible refine (HFX.out _ _ _ ST.out).mono ?_; rintro r W' ⟨ax, cx, rfl, hx⟩; clear ST; have ST := Lib.hid hx; clear hx))
            all_goals
              have hcx : LB.length ≤ cx := own_cap (ST.out.st.own (ax, cx, LB) (by simp))
              have hcw : Wl.length ≤ cw := own_cap (ST.out.st.own (aw, cw, Wl) (by simp))
              have h1 : LA.length ≤ cx := by omega
              have h2 : LB.length ≤ cw := by omega
              go_wp2_with (first
                | (go_at_call 18; with_reducible refine (b_Same ST.out (a := am) (c := cm) (L := LA) (a' := ax) (c' := cx) (L' := LB) (by simp) (by simp) (by omega) hab1 HAB2.out).mono ?_; rintro r W' ⟨rfl, hx⟩; clear ST; have ST := Lib.hid hx; clear hx)
                | (go_at_call 18; with_reducible refine (b_Same ST.out (a := ax) (c := cx) (L := LB) (a' := aw) (c' := cw) (L' := Wl) (by simp) (by simp) (by omega) hLB HAB3.out).mono ?_; rintro r W' ⟨rfl, hx⟩; clear ST; have ST := Lib.hid hx; clear hx))
              go_ret
              exact ⟨rfl, ST.out.st.st.below⟩
    · obtain ⟨i1, i2⟩ := empty_yes hi
      obtain ⟨u1, u2⟩ := empty_no hu
      have hmore : ∀ z, meansB ⟨x.kind, t.id, x.rel, ⟨x.user.kind, x.user.id, x.user.rel⟩⟩ z = true → meansB x z = true := fun z hz => means_more x t z (by simpa only [moreF, hi, hu, if_true, if_false] using hz)
      have HMORE := Lib.hid hmore
      clear hi hu hmore
      go_wp2_with fail
      with_reducible refine (b_awake ST.out).mono ?_
      rintro r w3 ⟨rfl, hx⟩
      clear ST
      have ST := Lib.hid hx
      clear hx
      go_wp2_with fail
      with_reducible refine (C0.out _ ST.out).mono ?_
      rintro r w3 ⟨rfl, hx⟩
      clear ST
      have ST := Lib.hid hx
      clear hx
      obtain ⟨x0, x1, x2, x3, x4, x5⟩ := ST.out.xs
      obtain ⟨t0, t1, t2, t3, t4, t5⟩ := ST.out.ts
      have hlt1 : w.heap.size + 1 < w3.heap.size := World.block_lt_of_cell? _ _ t0
      have hlt0 : w.heap.size < w3.heap.size := by omega
      go_wp2_with fail
      have ST2 := Lib.hid (BSt.made ST.out ⟨x.kind, t.id, x.rel, ⟨x.user.kind, x.user.id, x.user.rel⟩⟩)
      clear ST x0 x1 x2 x3 x4 x5 t0 t1 t2 t3 t4 t5 hlt0 hlt1 i1 i2 u1 u2
      obtain ⟨y, hyd⟩ : ∃ y : LTuple, y = ⟨x.kind, t.id, x.rel, ⟨x.user.kind, x.user.id, x.user.rel⟩⟩ := ⟨_, rfl⟩
      rw [← hyd] at HMORE
      have ST := Lib.hid (show BSt w (w3.alloc (.cells #[.string x.kind, .string t.id, .string x.rel, .string x.user.kind, .string x.user.id, .string x.user.rel] 49)) fb mb S v l [] x t n0 n1 [(w3.heap.size, y)] from by rw [hyd]; exact ST2.out)
      clear hyd ST2
      generalize w3.alloc (.cells #[.string x.kind, .string t.id, .string x.rel, .string x.user.kind, .string x.user.id, .string x.user.rel] 49) = W3 at *
      generalize w3.heap.size = yb at *
      have hLW : ((canon tLess S).filter (meansB x)).length ≤ 80 := Nat.le_trans (List.length_filter_le _ _) (Nat.le_trans (canon_length_le _) h80)
      have hLN : ((canon tLess S).filter (meansB y)).length ≤ 80 := Nat.le_trans (List.length_filter_le _ _) (Nat.le_trans (canon_length_le _) h80)
      have hsub : ∀ z, z ∈ (canon tLess S).filter (meansB y) → z ∈ (canon tLess S).filter (meansB x) := fun z hz => by
        rw [List.mem_filter] at hz ⊢
        exact ⟨hz.1, HMORE.out z hz.2⟩
      have hfw := fun W A Y (h : BSt w W fb mb S v l A x t n0 n1 Y) => HFI.out W A Y h x 1000 ((canon tLess S).filter (meansB x)) (List.take_of_length_le (by simp; omega))
      have hfn := fun W A Y (h : BSt w W fb mb S v l A x t n0 n1 Y) => HFI.out W A Y h y 1000 ((canon tLess S).filter (meansB y)) (List.take_of_length_le (by simp; omega))
      have hfm := fun W A Y (h : BSt w W fb mb S v l A x t n0 n1 Y) => HFI.out W A Y h x (IntKind.i64.wrap (min n0 n1)) (((canon tLess S).filter (meansB x)).take (IntKind.i64.wrap (min n0 n1)).toNat) rfl
      have hfx := fun W A Y (h : BSt w W fb mb S v l A x t n0 n1 Y) => HFI.out W A Y h x (IntKind.i64.wrap (max n0 n1)) (((canon tLess S).filter (meansB x)).take (IntKind.i64.wrap (max n0 n1)).toNat) rfl
      generalize (canon tLess S).filter (meansB x) = Wl at *
      obtain ⟨hab1, hab2, hab3⟩ := take_facts Wl (wrap_le hn0 hn1)
      have hLB : (Wl.take (IntKind.i64.wrap (max n0 n1)).toNat).length ≤ Wl.length := by simp; omega
      generalize Wl.take (IntKind.i64.wrap (min n0 n1)).toNat = LA at *
      generalize Wl.take (IntKind.i64.wrap (max n0 n1)).toNat = LB at *
      have HAB2 := Lib.hid hab2; have HAB3 := Lib.hid hab3; clear hab2 hab3
      generalize (canon tLess S).filter (meansB y) = Nl at *
      have HFW := Lib.hid hfw; have HFN := Lib.hid hfn; have HFM := Lib.hid hfm; have HFX := Lib.hid hfx; have HSUB := Lib.hid hsub
      clear hfw hfn hfm hfx hsub HMORE HFI
      have ST1 := ST
      clear ST
      have ST := Lib.hid (ST1.out.next (Below.refl _ W3).drew)
      clear ST1
      go_region_held3 (fun W => (W.cell? ⟨w.heap.size, 0, none⟩ = some (.string x.kind) ∧ W.cell? ⟨w.heap.size, 1, none⟩ = some (.string x.id) ∧ W.cell? ⟨w.heap.size, 2, none⟩ = some (.string x.rel) ∧ W.cell? ⟨w.heap.size, 3, none⟩ = some (.string x.user.kind) ∧ W.cell? ⟨w.heap.size, 4, none⟩ = some (.string x.user.id) ∧ W.cell? ⟨w.heap.size, 5, none⟩ = some (.string x.user.rel)) ∧
          (W.cell? ⟨yb, 0, none⟩ = some (.string y.kind) ∧ W.cell? ⟨yb, 1, none⟩ = some (.string y.id) ∧ W.cell? ⟨yb, 2, none⟩ = some (.string y.rel) ∧ W.cell? ⟨yb, 3, none⟩ = some (.string y.user.kind) ∧ W.cell? ⟨yb, 4, none⟩ = some (.string y.user.id) ∧ W.cell? ⟨yb, 5, none⟩ = some (.string y.user.rel)))
        (exact ⟨ST.out.xs, ST.out.ys (yb, y) (by simp)⟩)
        (first
          | (go_at_call 23; with_reducible refine (HFW.out _ _ _ ST.out).mono ?_; rintro r W' ⟨aw, cw, rfl, hx⟩; clear ST; have ST := Lib.hid hx; clear hx)
          | (go_at_call 23; with_reducible refine (HFN.out _ _ _ ST.out).mono ?_; rintro r W' ⟨an, cn, rfl, hx⟩; clear ST; have ST := Lib.hid hx; clear hx))
      all_goals
        have ST2 := Lib.hid (ST.out.sub (A' := [(aw, cw, Wl), (an, cn, Nl)]) (by intro p hp; simp at hp ⊢; rcases hp with h | h <;> simp [h]))
        clear ST
        go_wp2
        go_loopw [13] (fun i wr => ∃ q : Nat, q ≤ Nl.length ∧ i = .int .i64 q ∧ Aside (BSt w wr fb mb S v l [(aw, cw, Wl), (an, cn, Nl)] x t n0 n1 [(yb, y)])) (fun i _ => Nl.length - (intOf i).toNat)
        case atStart => exact ⟨0, by omega, rfl, ⟨ST2.out⟩⟩
        case round =>
          obtain ⟨q, hq, rfl, hU⟩ := hrel
          by_cases hlt : q < Nl.length
          · have hown : OwnL wr w.heap.size 32 6 LTuple.cells (.slice an Nl.length cn) Nl := hU.out.st.own (an, cn, Nl) (by simp)
            obtain ⟨b, rfl⟩ := own_place hown (by omega)
            obtain ⟨e0, e1, e2, e3, e4, e5⟩ := own_cells6 hown hlt
            have hzm := HSUB.out _ (List.getElem_mem hlt)
            generalize Nl[q] = z at *
            have HU := Lib.hid hU.out
            clear hU hown ST2
            go_wp2_with (go_at_call 12; with_reducible refine (b_Has HU.out (a := aw) (c := cw) (L := Wl) (by simp) (by omega) z hzm).mono ?_; rintro r W' ⟨rfl, hx⟩; have HX := Lib.hid hx; clear hx)
            first
              | exact ⟨⟨q + 1, by omega, by go_num, ⟨HX.out⟩⟩, by simp [intOf] <;> omega⟩
              | (go_roundw
                 case rel => exact ⟨q + 1, by omega, by go_num, ⟨HX.out⟩⟩
                 case measure => simp [intOf]; omega)
          · have ST := Lib.hid (hU.out.next (Below.refl _ wr).drew)
            clear hU ST2
            go_wp2_with fail
            go_region_held3 (fun W => (W.cell? ⟨w.heap.size, 0, none⟩ = some (.string x.kind) ∧ W.cell? ⟨w.heap.size, 1, none⟩ = some (.string x.id) ∧ W.cell? ⟨w.heap.size, 2, none⟩ = some (.string x.rel) ∧ W.cell? ⟨w.heap.size, 3, none⟩ = some (.string x.user.kind) ∧ W.cell? ⟨w.heap.size, 4, none⟩ = some (.string x.user.id) ∧ W.cell? ⟨w.heap.size, 5, none⟩ = some (.string x.user.rel)) ∧
                W.cell? ⟨w.heap.size + 1 + 1, 0, none⟩ = some (.int .u8 n0) ∧ W.cell? ⟨w.heap.size + 1 + 1, 1, none⟩ = some (.int .u8 n1))
              (exact ⟨ST.out.xs, ST.out.ns⟩)
              (first
                | (go_at_call 23; with_reducible refine (HFM.out _ _ _ ST.out).mono ?_; rintro r W' ⟨am, cm, rfl, hx⟩; clear ST; have ST := Lib.hid hx; clear hx)
                | (go_at_call 23; with_reducible refine (HFX.out _ _ _ ST.out).mono ?_; rintro r W' ⟨ax, cx, rfl, hx⟩; clear ST; have ST := Lib.hid hx; clear hx))
            all_goals
              have hcx : LB.length ≤ cx := own_cap (ST.out.st.own (ax, cx, LB) (by simp))
              have hcw : Wl.length ≤ cw := own_cap (ST.out.st.own (aw, cw, Wl) (by simp))
              have h1 : LA.length ≤ cx := by omega
              have h2 : LB.length ≤ cw := by omega
              go_wp2_with (first
                | (go_at_call 18; with_reducible refine (b_Same ST.out (a := am) (c := cm) (L := LA) (a' := ax) (c' := cx) (L' := LB) (by simp) (by simp) (by omega) hab1 HAB2.out).mono ?_; rintro r W' ⟨rfl, hx⟩; clear ST; have ST := Lib.hid hx; clear hx)
                | (go_at_call 18; with_reducible refine (b_Same ST.out (a := ax) (c := cx) (L := LB) (a' := aw) (c' := cw) (L' := Wl) (by simp) (by simp) (by omega) hLB HAB3.out).mono ?_; rintro r W' ⟨rfl, hx⟩; clear ST; have ST := Lib.hid hx; clear hx))
              go_ret
              exact ⟨rfl, ST.out.st.st.below⟩
  · by_cases hu : x.user.id = ⟨#[]⟩
    · obtain ⟨i1, i2⟩ := empty_no hi
      obtain ⟨u1, u2⟩ := empty_yes hu
      have hmore : ∀ z, meansB ⟨x.kind, x.id, x.rel, ⟨x.user.kind, t.user.id, x.user.rel⟩⟩ z = true → meansB x z = true := fun z hz => means_more x t z (by simpa only [moreF, hi, hu, if_true, if_false] using hz)
      have HMORE := Lib.hid hmore
      clear hi hu hmore
      go_wp2_with fail
      with_reducible refine (b_awake ST.out).mono ?_
      rintro r w3 ⟨rfl, hx⟩
      clear ST
      have ST := Lib.hid hx
      clear hx
      go_wp2_with fail
      with_reducible refine (C0.out _ ST.out).mono ?_
      rintro r w3 ⟨rfl, hx⟩
      clear ST
      have ST := Lib.hid hx
      clear hx
      obtain ⟨x0, x1, x2, x3, x4, x5⟩ := ST.out.xs
      obtain ⟨t0, t1, t2, t3, t4, t5⟩ := ST.out.ts
      have hlt1 : w.heap.size + 1 < w3.heap.size := World.block_lt_of_cell? _ _ t0
      have hlt0 : w.heap.size < w3.heap.size := by omega
      go_wp2_with fail
      have ST2 := Lib.hid (BSt.made ST.out ⟨x.kind, x.id, x.rel, ⟨x.user.kind, t.user.id, x.user.rel⟩⟩)
      clear ST x0 x1 x2 x3 x4 x5 t0 t1 t2 t3 t4 t5 hlt0 hlt1 i1 i2 u1 u2
      obtain ⟨y, hyd⟩ : ∃ y : LTuple, y = ⟨x.kind, x.id, x.rel, ⟨x.user.kind, t.user.id, x.user.rel⟩⟩ := ⟨_, rfl⟩
      rw [← hyd] at HMORE
      have ST := Lib.hid (show BSt w (w3.alloc (.cells #[.string x.kind, .string x.id, .string x.rel, .string x.user.kind, .string t.user.id, .string x.user.rel] 49)) fb mb S v l [] x t n0 n1 [(w3.heap.size, y)] from by rw [hyd]; exact ST2.out)
      clear hyd ST2
      generalize w3.alloc (.cells #[.string x.kind, .string x.id, .string x.rel, .string x.user.kind, .string t.user.id, .string x.user.rel] 49) = W3 at *
      generalize w3.heap.size = yb at *
      have hLW : ((canon tLess S).filter (meansB x)).length ≤ 80 := Nat.le_trans (List.length_filter_le _ _) (Nat.le_trans (canon_length_le _) h80)
      have hLN : ((canon tLess S).filter (meansB y)).length ≤ 80 := Nat.le_trans (List.length_filter_le _ _) (Nat.le_trans (canon_length_le _) h80)
      have hsub : ∀ z, z ∈ (canon tLess S).filter (meansB y) → z ∈ (canon tLess S).filter (meansB x) := fun z hz => by
        rw [List.mem_filter] at hz ⊢
        exact ⟨hz.1, HMORE.out z hz.2⟩
      have hfw := fun W A Y (h : BSt w W fb mb S v l A x t n0 n1 Y) => HFI.out W A Y h x 1000 ((canon tLess S).filter (meansB x)) (List.take_of_length_le (by simp; omega))
      have hfn := fun W A Y (h : BSt w W fb mb S v l A x t n0 n1 Y) => HFI.out W A Y h y 1000 ((canon tLess S).filter (meansB y)) (List.take_of_length_le (by simp; omega))
      have hfm := fun W A Y (h : BSt w W fb mb S v l A x t n0 n1 Y) => HFI.out W A Y h x (IntKind.i64.wrap (min n0 n1)) (((canon tLess S).filter (meansB x)).take (IntKind.i64.wrap (min n0 n1)).toNat) rfl
      have hfx := fun W A Y (h : BSt w W fb mb S v l A x t n0 n1 Y) => HFI.out W A Y h x (IntKind.i64.wrap (max n0 n1)) (((canon tLess S).filter (meansB x)).take (IntKind.i64.wrap (max n0 n1)).toNat) rfl
      generalize (canon tLess S).filter (meansB x) = Wl at *
      obtain ⟨hab1, hab2, hab3⟩ := take_facts Wl (wrap_le hn0 hn1)
      have hLB : (Wl.take (IntKind.i64.wrap (max n0 n1)).toNat).length ≤ Wl.length := by simp; omega
      generalize Wl.take (IntKind.i64.wrap (min n0 n1)).toNat = LA at *
      generalize Wl.take (IntKind.i64.wrap (max n0 n1)).toNat = LB at *
      have HAB2 := Lib.hid hab2; have HAB3 := Lib.hid hab3; clear hab2 hab3
      generalize (canon tLess S).filter (meansB y) = Nl at *
      have HFW := Lib.hid hfw; have HFN := Lib.hid hfn; have HFM := Lib.hid hfm; have HFX := Lib.hid hfx; have HSUB := Lib.hid hsub
      clear hfw hfn hfm hfx hsub HMORE HFI
      have ST1 := ST
      clear ST
      have ST := Lib.hid (ST1.out.next (Below.refl _ W3).drew)
      clear ST1
      go_region_held3 (fun W => (W.cell? ⟨w.heap.size, 0, none⟩ = some (.string x.kind) ∧ W.cell? ⟨w.heap.size, 1, none⟩ = some (.string x.id) ∧ W.cell? ⟨w.heap.size, 2, none⟩ = some (.string x.rel) ∧ W.cell? ⟨w.heap.size, 3, none⟩ = some (.string x.user.kind) ∧ W.cell? ⟨w.heap.size, 4, none⟩ = some (.string x.user.id) ∧ W.cell? ⟨w.heap.size, 5, none⟩ = some (.string x.user.rel)) ∧
          (W.cell? ⟨yb, 0, none⟩ = some (.string y.kind) ∧ W.cell? ⟨yb, 1, none⟩ = some (.string y.id) ∧ W.cell? ⟨yb, 2, none⟩ = some (.string y.rel) ∧ W.cell? ⟨yb, 3, none⟩ = some (.string y.user.kind) ∧ W.cell? ⟨yb, 4, none⟩ = some (.string y.user.id) ∧ W.cell? ⟨yb, 5, none⟩ = some (.string y.user.rel)))
        (exact ⟨ST.out.xs, ST.out.ys (yb, y) (by simp)⟩)
        (first
          | (go_at_call 23; with_reducible refine (HFW.out _ _ _ ST.out).mono ?_; rintro r W' ⟨aw, cw, rfl, hx⟩; clear ST; have ST := Lib.hid hx; clear hx)
          | (go_at_call 23; with_reducible refine (HFN.out _ _ _ ST.out).mono ?_; rintro r W' ⟨an, cn, rfl, hx⟩; clear ST; have ST := Lib.hid hx; clear hx))
      all_goals
        have ST2 := Lib.hid (ST.out.sub (A' := [(aw, cw, Wl), (an, cn, Nl)]) (by intro p hp; simp at hp ⊢; rcases hp with h | h <;> simp [h]))
        clear ST
        go_wp2
        go_loopw [13] (fun i wr => ∃ q : Nat, q ≤ Nl.length ∧ i = .int .i64 q ∧ Aside (BSt w wr fb mb S v l [(aw, cw, Wl), (an, cn, Nl)] x t n0 n1 [(yb, y)])) (fun i _ => Nl.length - (intOf i).toNat)
        case atStart => exact ⟨0, by omega, rfl, ⟨ST2.out⟩⟩
        case round =>
          obtain ⟨q, hq, rfl, hU⟩ := hrel
          by_cases hlt : q < Nl.length
          · have hown : OwnL wr w.heap.size 32 6 LTuple.cells (.slice an Nl.length cn) Nl := hU.out.st.own (an, cn, Nl) (by simp)
            obtain ⟨b, rfl⟩ := own_place hown (by omega)
            obtain ⟨e0, e1, e2, e3, e4, e5⟩ := own_cells6 hown hlt
            have hzm := HSUB.out _ (List.getElem_mem hlt)
            generalize Nl[q] = z at *
            have HU := Lib.hid hU.out
            clear hU hown ST2
            go_wp2_with (go_at_call 12; with_reducible refine (b_Has HU.out (a := aw) (c := cw) (L := Wl) (by simp) (by omega) z hzm).mono ?_; rintro r W' ⟨rfl, hx⟩; have HX := Lib.hid hx; clear hx)
            first
              | exact ⟨⟨q + 1, by omega, by go_num, ⟨HX.out⟩⟩, by simp [intOf] <;> omega⟩
              | (go_roundw
                 case rel => exact ⟨q + 1, by omega, by go_num, ⟨HX.out⟩⟩
                 case measure => simp [intOf]; omega)
          · have ST := Lib.hid (hU.out.next (Below.refl _ wr).drew)
            clear hU ST2
            go_wp2_with fail
            go_region_held3 (fun W => (W.cell? ⟨w.heap.size, 0, none⟩ = some (.string x.kind) ∧ W.cell? ⟨w.heap.size, 1, none⟩ = some (.string x.id) ∧ W.cell? ⟨w.heap.size, 2, none⟩ = some (.string x.rel) ∧ W.cell? ⟨w.heap.size, 3, none⟩ = some (.string x.user.kind) ∧ W.cell? ⟨w.heap.size, 4, none⟩ = some (.string x.user.id) ∧ W.cell? ⟨w.heap.size, 5, none⟩ = some (.string x.user.rel)) ∧
                W.cell? ⟨w.heap.size + 1 + 1, 0, none⟩ = some (.int .u8 n0) ∧ W.cell? ⟨w.heap.size + 1 + 1, 1, none⟩ = some (.int .u8 n1))
              (exact ⟨ST.out.xs, ST.out.ns⟩)
              (first
                | (go_at_call 23; with_reducible refine (HFM.out _ _ _ ST.out).mono ?_; rintro r W' ⟨am, cm, rfl, hx⟩; clear ST; have ST := Lib.hid hx; clear hx)
                | (go_at_call 23; with_reducible refine (HFX.out _ _ _ ST.out).mono ?_; rintro r W' ⟨ax, cx, rfl, hx⟩; clear ST; have ST := Lib.hid hx; clear hx))
            all_goals
              have hcx : LB.length ≤ cx := own_cap (ST.out.st.own (ax, cx, LB) (by simp))
              have hcw : Wl.length ≤ cw := own_cap (ST.out.st.own (aw, cw, Wl) (by simp))
              have h1 : LA.length ≤ cx := by omega
              have h2 : LB.length ≤ cw := by omega
              go_wp2_with (first
                | (go_at_call 18; with_reducible refine (b_Same ST.out (a := am) (c := cm) (L := LA) (a' := ax) (c' := cx) (L' := LB) (by simp) (by simp) (by omega) hab1 HAB2.out).mono ?_; rintro r W' ⟨rfl, hx⟩; clear ST; have ST := Lib.hid hx; clear hx)
                | (go_at_call 18; with_reducible refine (b_Same ST.out (a := ax) (c := cx) (L := LB) (a' := aw) (c' := cw) (L' := Wl) (by simp) (by simp) (by omega) hLB HAB3.out).mono ?_; rintro r W' ⟨rfl, hx⟩; clear ST; have ST := Lib.hid hx; clear hx))
              go_ret
              exact ⟨rfl, ST.out.st.st.below⟩
    · obtain ⟨i1, i2⟩ := empty_no hi
      obtain ⟨u1, u2⟩ := empty_no hu
      have hmore : ∀ z, meansB ⟨x.kind, x.id, x.rel, ⟨x.user.kind, x.user.id, x.user.rel⟩⟩ z = true → meansB x z = true := fun z hz => means_more x t z (by simpa only [moreF, hi, hu, if_true, if_false] using hz)
      have HMORE := Lib.hid hmore
      clear hi hu hmore
      go_wp2_with fail
      with_reducible refine (b_awake ST.out).mono ?_
      rintro r w3 ⟨rfl, hx⟩
      clear ST
      have ST := Lib.hid hx
      clear hx
      go_wp2_with fail
      with_reducible refine (C0.out _ ST.out).mono ?_
      rintro r w3 ⟨rfl, hx⟩
      clear ST
      have ST := Lib.hid hx
      clear hx
      obtain ⟨x0, x1, x2, x3, x4, x5⟩ := ST.out.xs
      obtain ⟨t0, t1, t2, t3, t4, t5⟩ := ST.out.ts
      have hlt1 : w.heap.size + 1 < w3.heap.size := World.block_lt_of_cell? _ _ t0
      have hlt0 : w.heap.size < w3.heap.size := by omega
      go_wp2_with fail
      have ST2 := Lib.hid (BSt.made ST.out ⟨x.kind, x.id, x.rel, ⟨x.user.kind, x.user.id, x.user.rel⟩⟩)
      clear ST x0 x1 x2 x3 x4 x5 t0 t1 t2 t3 t4 t5 hlt0 hlt1 i1 i2 u1 u2
      obtain ⟨y, hyd⟩ : ∃ y : LTuple, y = ⟨x.kind, x.id, x.rel, ⟨x.user.kind, x.user.id, x.user.rel⟩⟩ := ⟨_, rfl⟩
      rw [← hyd] at HMORE
      have ST := Lib.hid (show BSt w (w3.alloc (.cells #[.string x.kind, .string x.id, .string x.rel, .string x.user.kind, .string x.user.id, .string x.user.rel] 49)) fb mb S v l [] x t n0 n1 [(w3.heap.size, y)] from by rw [hyd]; exact ST2.out)
      clear hyd ST2
      generalize w3.alloc (.cells #[.string x.kind, .string x.id, .string x.rel, .string x.user.kind, .string x.user.id, .string x.user.rel] 49) = W3 at *
      generalize w3.heap.size = yb at *
      have hLW : ((canon tLess S).filter (meansB x)).length ≤ 80 := Nat.le_trans (List.length_filter_le _ _) (Nat.le_trans (canon_length_le _) h80)
      have hLN : ((canon tLess S).filter (meansB y)).length ≤ 80 := Nat.le_trans (List.length_filter_le _ _) (Nat.le_trans (canon_length_le _) h80)
      have hsub : ∀ z, z ∈ (canon tLess S).filter (meansB y) → z ∈ (canon tLess S).filter (meansB x) := fun z hz => by
        rw [List.mem_filter] at hz ⊢
        exact ⟨hz.1, HMORE.out z hz.2⟩
      have hfw := fun W A Y (h : BSt w W fb mb S v l A x t n0 n1 Y) => HFI.out W A Y h x 1000 ((canon tLess S).filter (meansB x)) (List.take_of_length_le (by simp; omega))
      have hfn := fun W A Y (h : BSt w W fb mb S v l A x t n0 n1 Y) => HFI.out W A Y h y 1000 ((canon tLess S).filter (meansB y)) (List.take_of_length_le (by simp; omega))
      have hfm := fun W A Y (h : BSt w W fb mb S v l A x t n0 n1 Y) => HFI.out W A Y h x (IntKind.i64.wrap (min n0 n1)) (((canon tLess S).filter (meansB x)).take (IntKind.i64.wrap (min n0 n1)).toNat) rfl
      have hfx := fun W A Y (h : BSt w W fb mb S v l A x t n0 n1 Y) => HFI.out W A Y h x (IntKind.i64.wrap (max n0 n1)) (((canon tLess S).filter (meansB x)).take (IntKind.i64.wrap (max n0 n1)).toNat) rfl
      generalize (canon tLess S).filter (meansB x) = Wl at *
      obtain ⟨hab1, hab2, hab3⟩ := take_facts Wl (wrap_le hn0 hn1)
      have hLB : (Wl.take (IntKind.i64.wrap (max n0 n1)).toNat).length ≤ Wl.length := by simp; omega
      generalize Wl.take (IntKind.i64.wrap (min n0 n1)).toNat = LA at *
      generalize Wl.take (IntKind.i64.wrap (max n0 n1)).toNat = LB at *
      have HAB2 := Lib.hid hab2; have HAB3 := Lib.hid hab3; clear hab2 hab3
      generalize (canon tLess S).filter (meansB y) = Nl at *
      have HFW := Lib.hid hfw; have HFN := Lib.hid hfn; have HFM := Lib.hid hfm; have HFX := Lib.hid hfx; have HSUB := Lib.hid hsub
      clear hfw hfn hfm hfx hsub HMORE HFI
      have ST1 := ST
      clear ST
      have ST := Lib.hid (ST1.out.next (Below.refl _ W3).drew)
      clear ST1
      go_region_held3 (fun W => (W.cell? ⟨w.heap.size, 0, none⟩ = some (.string x.kind) ∧ W.cell? ⟨w.heap.size, 1, none⟩ = some (.string x.id) ∧ W.cell? ⟨w.heap.size, 2, none⟩ = some (.string x.rel) ∧ W.cell? ⟨w.heap.size, 3, none⟩ = some (.string x.user.kind) ∧ W.cell? ⟨w.heap.size, 4, none⟩ = some (.string x.user.id) ∧ W.cell? ⟨w.heap.size, 5, none⟩ = some (.string x.user.rel)) ∧
          (W.cell? ⟨yb, 0, none⟩ = some (.string y.kind) ∧ W.cell? ⟨yb, 1, none⟩ = some (.string y.id) ∧ W.cell? ⟨yb, 2, none⟩ = some (.string y.rel) ∧ W.cell? ⟨yb, 3, none⟩ = some (.string y.user.kind) ∧ W.cell? ⟨yb, 4, none⟩ = some (.string y.user.id) ∧ W.cell? ⟨yb, 5, none⟩ = some (.string y.user.rel)))
        (exact ⟨ST.out.xs, ST.out.ys (yb, y) (by simp)⟩)
        (first
          | (go_at_call 23; with_reducible refine (HFW.out _ _ _ ST.out).mono ?_; rintro r W' ⟨aw, cw, rfl, hx⟩; clear ST; have ST := Lib.hid hx; clear hx)
          | (go_at_call 23; with_reducible refine (HFN.out _ _ _ ST.out).mono ?_; rintro r W' ⟨an, cn, rfl, hx⟩; clear ST; have ST := Lib.hid hx; clear hx))
      all_goals
        have ST2 := Lib.hid (ST.out.sub (A' := [(aw, cw, Wl), (an, cn, Nl)]) (by intro p hp; simp at hp ⊢; rcases hp with h | h <;> simp [h]))
        clear ST
        go_wp2
        go_loopw [13] (fun i wr => ∃ q : Nat, q ≤ Nl.length ∧ i = .int .i64 q ∧ Aside (BSt w wr fb mb S v l [(aw, cw, Wl), (an, cn, Nl)] x t n0 n1 [(yb, y)])) (fun i _ => Nl.length - (intOf i).toNat)
        case atStart => exact ⟨0, by omega, rfl, ⟨ST2.out⟩⟩
        case round =>
          obtain ⟨q, hq, rfl, hU⟩ := hrel
          by_cases hlt : q < Nl.length
          · have hown : OwnL wr w.heap.size 32 6 LTuple.cells (.slice an Nl.length cn) Nl := hU.out.st.own (an, cn, Nl) (by simp)
            obtain ⟨b, rfl⟩ := own_place hown (by omega)
            obtain ⟨e0, e1, e2, e3, e4, e5⟩ := own_cells6 hown hlt
            have hzm := HSUB.out _ (List.getElem_mem hlt)
            generalize Nl[q] = z at *
            have HU := Lib.hid hU.out
            clear hU hown ST2
            go_wp2_with (go_at_call 12; with_reducible refine (b_Has HU.out (a := aw) (c := cw) (L := Wl) (by simp) (by omega) z hzm).mono ?_; rintro r W' ⟨rfl, hx⟩; have HX := Lib.hid hx; clear hx)
            first
              | exact ⟨⟨q + 1, by omega, by go_num, ⟨HX.out⟩⟩, by simp [intOf] <;> omega⟩
              | (go_roundw
                 case rel => exact ⟨q + 1, by omega, by go_num, ⟨HX.out⟩⟩
                 case measure => simp [intOf]; omega)
          · have ST := Lib.hid (hU.out.next (Below.refl _ wr).drew)
            clear hU ST2
            go_wp2_with fail
            go_region_held3 (fun W => (W.cell? ⟨w.heap.size, 0, none⟩ = some (.string x.kind) ∧ W.cell? ⟨w.heap.size, 1, none⟩ = some (.string x.id) ∧ W.cell? ⟨w.heap.size, 2, none⟩ = some (.string x.rel) ∧ W.cell? ⟨w.heap.size, 3, none⟩ = some (.string x.user.kind) ∧ W.cell? ⟨w.heap.size, 4, none⟩ = some (.string x.user.id) ∧ W.cell? ⟨w.heap.size, 5, none⟩ = some (.string x.user.rel)) ∧
                W.cell? ⟨w.heap.size + 1 + 1, 0, none⟩ = some (.int .u8 n0) ∧ W.cell? ⟨w.heap.size + 1 + 1, 1, none⟩ = some (.int .u8 n1))
              (exact ⟨ST.out.xs, ST.out.ns⟩)
              (first
                | (go_at_call 23; with_reducible refine (HFM.out _ _ _ ST.out).mono ?_; rintro r W' ⟨am, cm, rfl, hx⟩; clear ST; have ST := Lib.hid hx; clear hx)
                | (go_at_call 23; with_reducible refine (HFX.out _ _ _ ST.out).mono ?_; rintro r W' ⟨ax, cx, rfl, hx⟩; clear ST; have ST := Lib.hid hx; clear hx))
            all_goals
              have hcx : LB.length ≤ cx := own_cap (ST.out.st.own (ax, cx, LB) (by simp))
              have hcw : Wl.length ≤ cw := own_cap (ST.out.st.own (aw, cw, Wl) (by simp))
              have h1 : LA.length ≤ cx := by omega
              have h2 : LB.length ≤ cw := by omega
              go_wp2_with (first
                | (go_at_call 18; with_reducible refine (b_Same ST.out (a := am) (c := cm) (L := LA) (a' := ax) (c' := cx) (L' := LB) (by simp) (by simp) (by omega) hab1 HAB2.out).mono ?_; rintro r W' ⟨rfl, hx⟩; clear ST; have ST := Lib.hid hx; clear hx)
                | (go_at_call 18; with_reducible refine (b_Same ST.out (a := ax) (c := cx) (L := LB) (a' := aw) (c' := cw) (L' := Wl) (by simp) (by simp) (by omega) hLB HAB3.out).mono ?_; rintro r W' ⟨rfl, hx⟩; clear ST; have ST := Lib.hid hx; clear hx))
              go_ret
              exact ⟨rfl, ST.out.st.st.below⟩
end Go.Proofs.Ytnfkjodiielidaa

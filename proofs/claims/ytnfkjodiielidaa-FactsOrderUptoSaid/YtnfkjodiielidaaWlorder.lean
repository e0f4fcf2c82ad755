/- FactsOrder: the walk. -/
import Derived.Test.YtnfkjodiielidaaWlnarrow
import Derived.Test.YtnfkjodiielidaaCut
import Derived.Deep.RegionHeld3
namespace Go.Proofs.Ytnfkjodiielidaa
set_option linter.unusedVariables false
set_option linter.unusedSimpArgs false
open Go.RowKit

theorem mem_foldl_putS (z : LTuple) : ∀ (l S : List LTuple), z ∈ l.foldl putS S ↔ z ∈ S ∨ (z ∈ l ∧ okTuple z = true) := by
  intro l
  induction l with
  | nil => intro S; simp
  | cons t l ih =>
    intro S
    rw [List.foldl_cons, ih]
    unfold putS mayPut
    by_cases ht : t ∈ S
    · simp only [ht, decide_true, Bool.not_true, Bool.and_false, if_false, Bool.false_eq_true, List.mem_cons]
      constructor
      · rintro (h | ⟨h1, h2⟩)
        · exact .inl h
        · exact .inr ⟨.inr h1, h2⟩
      · rintro (h | ⟨rfl | h1, h2⟩)
        · exact .inl h
        · exact .inl ht
        · exact .inr ⟨h1, h2⟩
    · cases hok : okTuple t with
      | true =>
        simp only [ht, decide_false, Bool.not_false, Bool.and_true, if_true, List.mem_append, List.mem_singleton, List.mem_cons, List.not_mem_nil, or_false]
        constructor
        · rintro ((h | rfl) | ⟨h1, h2⟩)
          · exact .inl h
          · exact .inr ⟨.inl rfl, hok⟩
          · exact .inr ⟨.inr h1, h2⟩
        · rintro (h | ⟨rfl | h1, h2⟩)
          · exact .inl (.inl h)
          · exact .inl (.inr rfl)
          · exact .inr ⟨h1, h2⟩
      | false =>
        simp only [ht, Bool.false_and, if_false, Bool.false_eq_true, List.mem_cons]
        constructor
        · rintro (h | ⟨h1, h2⟩)
          · exact .inl h
          · exact .inr ⟨.inr h1, h2⟩
        · rintro (h | ⟨rfl | h1, h2⟩)
          · exact .inl h
          · rw [hok] at h2; cases h2
          · exact .inr ⟨h1, h2⟩
theorem mem_newS (z : LTuple) (l : List LTuple) : z ∈ newS l ↔ z ∈ l ∧ okTuple z = true := by
  unfold newS; rw [mem_foldl_putS]; simp
theorem newS_same {l l' : List LTuple} (h : ∀ z, z ∈ l ↔ z ∈ l') : ∀ z, z ∈ newS l ↔ z ∈ newS l' := fun z => by rw [mem_newS, mem_newS, h]
theorem peopleOf_same {S S' : List LTuple} (h : ∀ z, z ∈ S ↔ z ∈ S') : peopleOf S = peopleOf S' := by
  unfold peopleOf
  refine canon_ext lin_uLess fun u => ?_
  simp only [List.mem_map]
  constructor
  · rintro ⟨t, ht, rfl⟩; exact ⟨t, (h t).1 ht, rfl⟩
  · rintro ⟨t, ht, rfl⟩; exact ⟨t, (h t).2 ht, rfl⟩

section
variable {P : Program} {ops : Array Oper} {o : Oper} {a : Act} {K : Act → World → Prop} {Q : Exit → Act → World → Prop} {E : Prop}
/-- append(own, what came in ...), at a step of a region that draws its order. -/
theorem step_app_in {α : Type} {dd : α → List D} (base : Nat) (hgd : o.guard = none) (s x : Operand) (t e : TypeId) (z : Value) (size bytes : Nat)
    (ho : o.op = .call { callee := .builtin .append, args := #[s, x], argTypes := #[t, t] }) (ht : P.underlying t = some (.slice e))
    (hinfo : (P.info? e).map (fun i => (i.zero, i.size, i.bytes)) = some (some z, size, bytes)) (hzs : z.cells.size = size) (hsz : 0 < size) (hby : 0 < bytes)
    (enc : α → List Value) (henc : ∀ x, (enc x).length = size) (h1 : ∀ x, ∀ v ∈ enc x, v.oneCell' = true) (hcell : ∀ (x : α) (A : Nat → Prop) (w : World) j u, j < size → RepD A w ((dd x).getD j (.bool false)) u → (enc x)[j]? = some u)
    {W : World} (v vx : Value) (xs ys : List α) (hs : a.eval s = v) (hx : a.eval x = vx) {A : Nat → Prop} (hr : RepD A W (.slice size (ys.map dd)) vx) (hslc : ∃ ad n c, vx = .slice (some ad) n c)
    (HO : OwnL W base e size enc v xs) (hbase : base ≤ W.heap.size) (hl : (xs.length + ys.length) * bytes ≤ 140737488355328)
    (h : ∀ v1 w1, OwnL w1 base e size enc v1 (xs ++ ys) → Below base W w1 → K (a.put o.dst v1) w1) :
    if Region.wanted o (yielded ops a.tmps) = true then Oper.wp P o a W K Q else E := by
  have hw : Region.wanted o (yielded ops a.tmps) = true := by simp [Region.wanted, hgd]
  rw [if_pos hw]
  obtain ⟨i0, hi, hzz⟩ := Option.map_eq_some_iff.1 hinfo
  simp only [Prod.mk.injEq] at hzz
  obtain ⟨hz0, hz1, hz2⟩ := hzz
  have hlen : xs.length + ys.length ≤ 140737488355328 := Nat.le_trans (Nat.le_mul_of_pos_right _ hby) hl
  rcases rows_cells henc hcell hr (.inr hslc) with ⟨rfl, rfl⟩ | ⟨ad, c, rfl, hc⟩
  · obtain ⟨ad, n, c, e⟩ := hslc; cases e
  · refine wp_append_own W s x t ho base e i0 z size bytes ht hi hz0 hz1 hz2 hzs hsz v xs.length (xs.flatMap enc) hs HO ad ys.length c (ys.flatMap enc) hx (length_flat henc ys) hc ?_ (by simp only [maxLen]; omega) hl hbase ?_
    · intro u hu
      obtain ⟨y, _, hy⟩ := List.mem_flatMap.1 hu
      exact h1 y u hy
    · intro v1 w1 hown hg _
      refine h v1 w1 (by unfold OwnL; rw [List.length_append, List.flatMap_append]; exact hown) ?_
      exact (Below.refl base W).grown hg hbase (fun k hk => (OwnL.block HO k hk).1)
end
/-- Where the law stands: the list; sets; what was answered. -/
structure OSt (w W : World) (v : Value) (l : List LTuple) (F : List (Nat × Nat × List LTuple)) (A : List (Option Addr × Nat × List LTuple)) (U : List (Option Addr × Nat × List LUser)) : Prop where
  below : Below w.heap.size w W
  rep : RepD (fun b => b < w.heap.size) W (.slice 6 (l.map LTuple.d)) v
  sets : ∀ p, p ∈ F → FactsAt W p.1 p.2.1 p.2.2
  own : ∀ p, p ∈ A → OwnL W w.heap.size 32 6 LTuple.cells (.slice p.1 p.2.2.length p.2.1) p.2.2
  usr : ∀ p, p ∈ U → OwnL W w.heap.size 30 3 LUser.cells (.slice p.1 p.2.2.length p.2.1) p.2.2
section
variable {w W W' : World} {v : Value} {l : List LTuple} {F : List (Nat × Nat × List LTuple)} {A : List (Option Addr × Nat × List LTuple)} {U : List (Option Addr × Nat × List LUser)}
theorem OSt.next (h : OSt w W v l F A U) (hb : Below W.heap.size W W') : OSt w W' v l F A U :=
  ⟨below_past h.below hb, h.rep.old hb, fun p hp => (h.sets p hp).below hb, fun p hp => (h.own p hp).below hb, fun p hp => (h.usr p hp).below hb⟩
theorem o_awake (h : OSt w W v l F A U) : Calls Try.prog 9 #[] W fun e W' => e = .returned (.bool true) ∧ OSt w W' v l F A U := by
  refine (awake_true W).mono ?_
  rintro e W' ⟨rfl, hb⟩
  exact ⟨rfl, h.next hb⟩
theorem o_Few (h : OSt w W v l F A U) : Calls Try.prog 10 #[v] W fun e W' => e = .returned (.bool (fewB l)) ∧ OSt w W' v l F A U := by
  refine (ref_Few h.rep).mono ?_
  rintro e W' ⟨rfl, hb⟩
  exact ⟨rfl, h.next hb⟩
theorem o_New (h : OSt w W v l F A U) {xs : List LTuple} {u : Value} {B : Nat → Prop} (hr : RepD B W (.slice 6 (xs.map LTuple.d)) u) : Calls Try.prog 8 #[u] W fun e W' => ∃ fb mb, e = .returned (.pointer (some ⟨fb, 0, none⟩)) ∧ OSt w W' v l ((fb, mb, newS xs) :: F) A U := by
  refine (facts_New xs u W hr).mono ?_
  rintro e W' ⟨fb, mb, rfl, _, _, hf, _, hb⟩
  have h2 := h.next hb
  refine ⟨fb, mb, rfl, h2.below, h2.rep, fun p hp => ?_, h2.own, h2.usr⟩
  rcases List.mem_cons.1 hp with rfl | hp
  · exact hf
  · exact h2.sets p hp
theorem o_All (h : OSt w W v l F A U) {fb mb : Nat} {S : List LTuple} (hp : (fb, mb, S) ∈ F) (hS : S.length ≤ 1000000000000) {L : List LTuple} (hL : canon tLess S = L) : Calls Try.prog 19 #[.pointer (some ⟨fb, 0, none⟩)] W fun e W' => ∃ a c, e = .returned (.slice a L.length c) ∧ OSt w W' v l F ((a, c, L) :: A) U := by
  subst hL
  refine (facts_All (h.sets _ hp) hS).mono ?_
  rintro e W' ⟨u, rfl, ho, hb⟩
  obtain ⟨a, c, rfl, _⟩ := ho.form
  have h2 := h.next hb
  refine ⟨a, c, rfl, h2.below, h2.rep, h2.sets, fun p hp => ?_, h2.usr⟩
  rcases List.mem_cons.1 hp with rfl | hp
  · exact ho.rebase h.below.size
  · exact h2.own p hp
theorem o_People (h : OSt w W v l F A U) {fb mb : Nat} {S : List LTuple} (hp : (fb, mb, S) ∈ F) (hS : S.length ≤ 1000000000000) {L : List LUser} (hL : peopleOf S = L) : Calls Try.prog 21 #[.pointer (some ⟨fb, 0, none⟩)] W fun e W' => ∃ a c, e = .returned (.slice a L.length c) ∧ OSt w W' v l F A ((a, c, L) :: U) := by
  subst hL
  refine (facts_People (h.sets _ hp) hS).mono ?_
  rintro e W' ⟨u, rfl, ho, hb⟩
  obtain ⟨a, c, rfl, _⟩ := ho.form
  have h2 := h.next hb
  refine ⟨a, c, rfl, h2.below, h2.rep, h2.sets, h2.own, fun p hp => ?_⟩
  rcases List.mem_cons.1 hp with rfl | hp
  · exact ho.rebase h.below.size
  · exact h2.usr p hp
theorem o_Same (h : OSt w W v l F A U) {a a' : Option Addr} {c c' : Nat} {L L' : List LTuple} (hp : (a, c, L) ∈ A) (hq : (a', c', L') ∈ A) (hl : L.length ≤ 1000000) (hl' : L'.length ≤ 1000000) {r : Bool} (hr : decide (L = L') = r) :
    Calls Try.prog 18 #[.slice a L.length c, .slice a' L'.length c'] W fun e W' => e = .returned (.bool r) ∧ OSt w W' v l F A U := by
  subst hr
  have h1 : RepD (fun _ => True) W (.slice 6 (L.map LTuple.d)) (.slice a L.length c) := (h.own _ hp).tuples (fun _ _ => trivial) (by show L.length ≤ _; omega)
  have h2 : RepD (fun _ => True) W (.slice 6 (L'.map LTuple.d)) (.slice a' L'.length c') := (h.own _ hq).tuples (fun _ _ => trivial) (by show L'.length ≤ _; omega)
  refine (ref_Same h1 h2).mono ?_
  rintro e W' ⟨rfl, hb⟩
  exact ⟨rfl, h.next hb⟩
theorem o_SameUsers (h : OSt w W v l F A U) {a a' : Option Addr} {c c' : Nat} {L L' : List LUser} (hp : (a, c, L) ∈ U) (hq : (a', c', L') ∈ U) (hl : L.length ≤ 1000000) (hl' : L'.length ≤ 1000000) {r : Bool} (hr : decide (L = L') = r) :
    Calls Try.prog 20 #[.slice a L.length c, .slice a' L'.length c'] W fun e W' => e = .returned (.bool r) ∧ OSt w W' v l F A U := by
  subst hr
  have h1 : RepD (fun _ => True) W (.slice 3 (L.map LUser.d)) (.slice a L.length c) := (h.usr _ hp).users (fun _ _ => trivial) (by show L.length ≤ _; omega)
  have h2 : RepD (fun _ => True) W (.slice 3 (L'.map LUser.d)) (.slice a' L'.length c') := (h.usr _ hq).users (fun _ _ => trivial) (by show L'.length ≤ _; omega)
  refine (ref_SameUsers h1 h2).mono ?_
  rintro e W' ⟨rfl, hb⟩
  exact ⟨rfl, h.next hb⟩
end
set_option maxRecDepth 100000 in
set_option maxHeartbeats 40000000 in
theorem order_walk {w : World} {l : List LTuple} {v : Value} (hv : RepD (fun _ => True) w (.slice 6 (l.map LTuple.d)) v) (hs : Slc v) (hl : l.length ≤ 1048576) (n : Int) (hn : 0 ≤ n ∧ n ≤ 255) :
    Calls Try.prog 4 #[v, .int .u8 n] w fun e w' => e = .returned (.bool true) ∧ Below w.heap.size w w' := by
  have hst : OSt w w v l [] [] [] := ⟨Below.refl _ _, hv.mono (fun b _ h => h), (fun p hp => by cases hp), (fun p hp => by cases hp), fun p hp => by cases hp⟩
  have ST := Lib.hid hst; have HS := Lib.hid hs
  obtain ⟨va, vc, hvf⟩ := hv.formM
  clear hst hs hv
  subst hvf
  have c0 := fun W (h : OSt w W (.slice va l.length vc) l [] [] []) => o_Few h
  have hfew : fewB l = true → l.length ≤ 80 := few_length
  generalize fewB l = f1 at *
  have C0 := Lib.hid c0; have HFEW := Lib.hid hfew
  clear c0 hfew
  cases f1
  · go_enter Try.func4, Try.ntmps4
    go_wp2_with (first
      | (go_at_call 9; with_reducible refine (o_awake ST.out).mono ?_; rintro r w3 ⟨rfl, hx⟩; clear ST; have ST := Lib.hid hx; clear hx)
      | (go_at_call 10; with_reducible refine (C0.out _ ST.out).mono ?_; rintro r w3 ⟨rfl, hx⟩; clear ST; have ST := Lib.hid hx; clear hx))
    go_ret
    exact ⟨rfl, ST.out.below⟩
  have h80 := HFEW.out rfl
  by_cases h0 : l.length = 0
  · rw [h0] at ST C0 ⊢
    go_enter Try.func4, Try.ntmps4
    go_wp2_with (first
      | (go_at_call 9; with_reducible refine (o_awake ST.out).mono ?_; rintro r w3 ⟨rfl, hx⟩; clear ST; have ST := Lib.hid hx; clear hx)
      | (go_at_call 10; with_reducible refine (C0.out _ ST.out).mono ?_; rintro r w3 ⟨rfl, hx⟩; clear ST; have ST := Lib.hid hx; clear hx))
    go_ret
    exact ⟨rfl, ST.out.below⟩
  have hpos : 0 < l.length := by omega
  obtain ⟨b, off, rfl⟩ : ∃ b off, va = some ⟨b, off, none⟩ := by
    obtain ⟨a', c', us, hv, _, _, hk⟩ := ST.out.rep.rows
    obtain ⟨b, off, ha, _⟩ := hk 0 hpos
    injection hv with e1
    exact ⟨b, off, e1.trans ha⟩
  obtain ⟨k, hk, hklt⟩ : ∃ k : Nat, n % (l.length : Int) = k ∧ k < l.length := by
    refine ⟨(n % (l.length : Int)).toNat, ?_, ?_⟩
    · rw [Int.toNat_of_nonneg (Int.emod_nonneg _ (by omega))]
    · have := Int.emod_lt_of_pos n (show (0 : Int) < l.length by omega)
      omega
  have hvc : l.length ≤ vc := by
    obtain ⟨a', c', us, hv, h, _⟩ := ST.out.rep.rows
    injection hv with e1 e2 e3
    omega
  go_enter Try.func4, Try.ntmps4
  go_wp2_with fail
  with_reducible refine (o_awake ST.out).mono ?_
  rintro r w3 ⟨rfl, hx⟩
  clear ST
  have ST := Lib.hid hx
  clear hx
  go_wp2_with fail
  with_reducible refine (C0.out _ ST.out).mono ?_
  rintro r w3 ⟨rfl, hx⟩
  clear ST
  have ST := Lib.hid hx
  clear hx
  have hm := own_made (w := w3) (N := w3.heap.size) rfl 32 6 LTuple.cells
  have hr0 := ST.out.rep.old ((Below.refl _ w3).alloc (Nat.le_refl _) (.cells #[] 32))
  have HM := Lib.hid hm; have HR0 := Lib.hid hr0
  clear hm hr0
  go_wp2_with (at_builtin; refine wpList_app_in (dd := LTuple.d) w3.heap.size rfl _ _ _ 32 _ 6 96 rfl Try.underlying22 info_tuple rfl (by omega) (by omega) LTuple.cells LTuple.len LTuple.one tuple_cell (.slice (some ⟨w3.heap.size, 0, none⟩) 0 0) (.slice (some ⟨b, off, none⟩) l.length vc) [] l rfl rfl HR0.out HS.out HM.out (by simp) (by simp; omega) ?_; intro v1 w1 hO hb1)
  have ST1 := Lib.hid (ST.out.next (((Below.refl _ w3).alloc (Nat.le_refl _) (.cells #[] 32)).trans hb1))
  have HO := Lib.hid hO
  clear hO ST hb1 HM HR0
  go_wp2_with fail
  refine (o_New ST1.out (HO.out.tuples (A := fun _ => True) (fun _ _ => trivial) (by simp; omega))).mono ?_
  rintro r w2 ⟨fa, ma, rfl, hx⟩
  have ST := Lib.hid hx
  clear hx ST1 HO
  have hki : (k : Int) ≤ l.length := by omega
  have hvi : (l.length : Int) ≤ vc := by omega
  have hki0 : (0 : Int) ≤ k := by omega
  have hvne : ¬ vc = k := by omega
  have hkv : (k : Int) ≤ vc := by omega
  have hBd : Below w2.heap.size w2 (w2.alloc (.cells #[] 32)).drew := ((Below.refl _ w2).alloc (Nat.le_refl _) _).drew
  have hr1 := (ST.out.rep.dropL (by omega) hklt).old hBd
  have hrt := ST.out.rep.takeL (by omega) (Nat.le_of_lt hklt)
  have hm1 := (own_made (w := w2) (N := w2.heap.size) rfl 32 6 LTuple.cells).below ((Below.refl _ _).drew)
  have HBD := Lib.hid hBd; have HR1 := Lib.hid hr1; have HM1 := Lib.hid hm1; have HRT := Lib.hid hrt
  clear hBd hr1 hm1 hrt
  go_wp2_with fail
  go_region_held3 (fun W => True) (exact trivial)
    (first
      | (refine step_app_in (dd := LTuple.d) (W := (w2.alloc (.cells #[] 32)).drew) (A := fun b => b < w.heap.size) w2.heap.size (by rfl) _ _ _ 32 _ 6 96 (by rfl) Try.underlying22 info_tuple rfl (by omega) (by omega) LTuple.cells LTuple.len LTuple.one tuple_cell (.slice (some ⟨w2.heap.size, 0, none⟩) 0 0) (.slice (some ⟨b, off + k * 6, none⟩) (l.length - k) (vc - k)) [] (l.drop k) (by rfl) (by rfl) HR1.out ⟨_, _, _, rfl⟩ HM1.out (by simp) (by simp; omega) ?_; intro v4 w4 hO4 hB4; have HO4 := Lib.hid hO4; have HB4 := Lib.hid (HBD.out.trans hB4); clear hO4 hB4)
      | (refine step_app_in (dd := LTuple.d) (W := w4) (A := fun b => b < w.heap.size) w2.heap.size (by rfl) _ _ _ 32 _ 6 96 (by rfl) Try.underlying22 info_tuple rfl (by omega) (by omega) LTuple.cells LTuple.len LTuple.one tuple_cell v4 (.slice (some ⟨b, off, none⟩) k vc) ([] ++ l.drop k) (l.take k) (by rfl) (by rfl) (HRT.out.old HB4.out) ⟨_, _, _, rfl⟩ HO4.out HB4.out.size (by simp; omega) ?_; intro v5 w5 hO5 hB5; have HO5 := Lib.hid hO5; have HB5 := Lib.hid (HB4.out.trans hB5); clear hO5 hB5)
      | (refine step_app_in (dd := LTuple.d) (W := w5) (A := fun b => b < w.heap.size) w2.heap.size (by rfl) _ _ _ 32 _ 6 96 (by rfl) Try.underlying22 info_tuple rfl (by omega) (by omega) LTuple.cells LTuple.len LTuple.one tuple_cell v5 (.slice (some ⟨b, off, none⟩) l.length vc) ([] ++ l.drop k ++ l.take k) l (by rfl) (by rfl) (ST.out.rep.old HB5.out) ⟨_, _, _, rfl⟩ HO5.out HB5.out.size (by simp; omega) ?_; intro v6 w6 hO6 hB6; have HO6 := Lib.hid hO6; have HB6 := Lib.hid (HB5.out.trans hB6); clear hO6 hB6)
      | (go_at_call 8; refine (o_New (ST.out.next HB6.out) (HO6.out.tuples (A := fun _ => True) (fun _ _ => trivial) (by simp; omega))).mono ?_; rintro r w7 ⟨fbb, mbb, rfl, hx⟩; have ST7 := Lib.hid hx; clear hx))
  all_goals
    have hsame : ∀ z, z ∈ newS ([] ++ l.drop k ++ l.take k ++ l) ↔ z ∈ newS ([] ++ l) := newS_same fun z => by
      simp only [List.nil_append, List.mem_append]
      constructor
      · rintro ((h | h) | h)
        · exact List.mem_of_mem_drop h
        · exact List.mem_of_mem_take h
        · exact h
      · exact fun h => .inr h
    have hc := canon_ext lin_tLess hsame
    have hp := peopleOf_same hsame
    have hl1 : (newS ([] ++ l)).length ≤ 80 := Nat.le_trans (newS_length_le _) (by simpa using h80)
    have hl2 : (newS ([] ++ l.drop k ++ l.take k ++ l)).length ≤ 160 := Nat.le_trans (newS_length_le _) (by simp; omega)
    clear hsame
    generalize newS ([] ++ l.drop k ++ l.take k ++ l) = S2 at *
    generalize newS ([] ++ l) = S1 at *
    have hLl : (canon tLess S1).length ≤ 80 := Nat.le_trans (canon_length_le _) hl1
    have hPl : (peopleOf S1).length ≤ 80 := by unfold peopleOf; exact Nat.le_trans (canon_length_le _) (by simpa using hl1)
    have hnd : ∀ (p : Nat) (z y : LTuple), (canon tLess S1)[p + 1]? = some z → (canon tLess S1)[p]? = some y → z ≠ y := fun p z y hz hy e => by
      obtain ⟨h1, e1⟩ := List.getElem?_eq_some_iff.1 hz
      obtain ⟨h2, e2⟩ := List.getElem?_eq_some_iff.1 hy
      have := List.pairwise_iff_getElem.1 (rising_canon lin_tLess S1) p (p + 1) h2 h1 (by omega)
      rw [e1, e2, e, lin_tLess.irrefl] at this
      cases this
    have a1 := fun W A U (h : OSt w W (.slice (some ⟨b, off, none⟩) l.length vc) l [(fbb, mbb, S2), (fa, ma, S1)] A U) => o_All h (fb := fa) (mb := ma) (S := S1) (by simp) (by omega) (L := canon tLess S1) rfl
    have a2 := fun W A U (h : OSt w W (.slice (some ⟨b, off, none⟩) l.length vc) l [(fbb, mbb, S2), (fa, ma, S1)] A U) => o_All h (fb := fbb) (mb := mbb) (S := S2) (by simp) (by omega) (L := canon tLess S1) hc
    have p1 := fun W A U (h : OSt w W (.slice (some ⟨b, off, none⟩) l.length vc) l [(fbb, mbb, S2), (fa, ma, S1)] A U) => o_People h (fb := fa) (mb := ma) (S := S1) (by simp) (by omega) (L := peopleOf S1) rfl
    have p2 := fun W A U (h : OSt w W (.slice (some ⟨b, off, none⟩) l.length vc) l [(fbb, mbb, S2), (fa, ma, S1)] A U) => o_People h (fb := fbb) (mb := mbb) (S := S2) (by simp) (by omega) (L := peopleOf S1) hp
    generalize canon tLess S1 = L at *
    generalize peopleOf S1 = Pp at *
    have A1 := Lib.hid a1; have A2 := Lib.hid a2; have P1 := Lib.hid p1; have P2 := Lib.hid p2; have HND := Lib.hid hnd
    clear a1 a2 p1 p2 hnd hc hp HB4 HO4 HB5 HO5 HB6 HO6 HBD HR1 HM1 HRT ST HS C0 HFEW
    have ST := ST7
    clear ST7
    go_wp2_with fail
    refine (A1.out _ _ _ ST.out).mono ?_
    rintro r w8 ⟨ax, cx, rfl, hx⟩
    clear ST
    have ST := Lib.hid hx
    clear hx
    go_wp2
    go_loopw [9] (fun i wr => ∃ p : Nat, p ≤ L.length ∧ i = .int .i64 ((p : Int) + 1) ∧ Aside (OSt w wr (.slice (some ⟨b, off, none⟩) l.length vc) l [(fbb, mbb, S2), (fa, ma, S1)] [(ax, cx, L)] [])) (fun i _ => L.length + 1 - (intOf i).toNat)
    case atStart => exact ⟨0, by omega, rfl, ⟨ST.out⟩⟩
    case round =>
      obtain ⟨p, hp, rfl, hU⟩ := hrel
      by_cases hlt : p + 1 < L.length
      · have hown : OwnL wr w.heap.size 32 6 LTuple.cells (.slice ax L.length cx) L := hU.out.own (ax, cx, L) (by simp)
        obtain ⟨bx, rfl⟩ := own_place hown (by omega)
        obtain ⟨e0, e1, e2, e3, e4, e5⟩ := own_cells6 hown hlt
        obtain ⟨d0, d1, d2, d3, d4, d5⟩ := own_cells6 hown (q := p) (by omega)
        have hne := HND.out p _ _ (List.getElem?_eq_getElem hlt) (List.getElem?_eq_getElem (show p < L.length by omega))
        generalize L[p + 1] = z at *
        generalize L[p] = y at *
        have heq := tuple_eqlB z y
        rw [show decide (z = y) = false by simp [hne]] at heq
        unfold LTuple.val at heq
        have mixed : Try.prog.follows Departure.mixedOrders = true := by kernel_rfl
        have HU := Lib.hid hU.out
        clear hU hown ST hne
        go_wp2_with fail
        go_region_o
        go_wp2
        first
          | exact ⟨⟨p + 1, by omega, by go_num, ⟨HU.out.next (Below.refl _ wr).drew⟩⟩, by simp [intOf] <;> omega⟩
          | (go_roundw
             case rel => exact ⟨p + 1, by omega, by go_num, ⟨HU.out.next (Below.refl _ wr).drew⟩⟩
             case measure => simp [intOf]; omega)
      · clear ST
        have ST := Lib.hid hU.out
        clear hU
        go_wp2_with fail
        refine (A2.out _ _ _ ST.out).mono ?_
        rintro r w9 ⟨ay, cy, rfl, hx⟩
        clear ST
        have ST := Lib.hid hx
        clear hx
        go_wp2_with fail
        refine (o_Same ST.out (a := ax) (c := cx) (L := L) (a' := ay) (c' := cy) (L' := L) (by simp) (by simp) (by omega) (by omega) (r := true) (by simp)).mono ?_
        rintro r w9 ⟨rfl, hx⟩
        clear ST
        have ST := Lib.hid hx
        clear hx
        go_wp2_with fail
        refine (P1.out _ _ _ ST.out).mono ?_
        rintro r w9 ⟨au, cu, rfl, hx⟩
        clear ST
        have ST := Lib.hid hx
        clear hx
        go_wp2_with fail
        refine (P2.out _ _ _ ST.out).mono ?_
        rintro r w9 ⟨av, cv, rfl, hx⟩
        clear ST
        have ST := Lib.hid hx
        clear hx
        go_wp2_with fail
        refine (o_SameUsers ST.out (a := au) (c := cu) (L := Pp) (a' := av) (c' := cv) (L' := Pp) (by simp) (by simp) (by omega) (by omega) (r := true) (by simp)).mono ?_
        rintro r w9 ⟨rfl, hx⟩
        clear ST
        have ST := Lib.hid hx
        clear hx
        go_wp2
        go_ret
        exact ⟨rfl, ST.out.below⟩
end Go.Proofs.Ytnfkjodiielidaa

/- The document's layer 13: whether a filter means a tuple; the tuples that it means. -/
import Derived.Test.YtnfkjodiielidaaGreatWref13
import Derived.Test.YtnfkjodiielidaaGreatWffind
import Derived.Test.YtnfkjodiielidaaGreatAppin
import Derived.Deep.RegionHeld3
namespace Go.Proofs.YtnfkjodiielidaaGreat
set_option linter.unusedVariables false
set_option linter.unusedSimpArgs false
open Go.RowKit

theorem means_all (x t : LTuple) : meansB x t = true ↔ ∀ j (hj : j < x.strs.length) (hj' : j < t.strs.length), isB x.strs[j] t.strs[j] = true := by
  constructor
  · intro h j hj hj'
    unfold meansB at h
    simp only [Bool.and_eq_true] at h
    obtain ⟨⟨⟨⟨⟨h0, h1⟩, h2⟩, h3⟩, h4⟩, h5⟩ := h
    match j, hj with
    | 0, _ => exact h0
    | 1, _ => exact h1
    | 2, _ => exact h2
    | 3, _ => exact h3
    | 4, _ => exact h4
    | 5, _ => exact h5
  · intro h
    have h0 := h 0 (by simp [LTuple.strs]) (by simp [LTuple.strs])
    have h1 := h 1 (by simp [LTuple.strs]) (by simp [LTuple.strs])
    have h2 := h 2 (by simp [LTuple.strs]) (by simp [LTuple.strs])
    have h3 := h 3 (by simp [LTuple.strs]) (by simp [LTuple.strs])
    have h4 := h 4 (by simp [LTuple.strs]) (by simp [LTuple.strs])
    have h5 := h 5 (by simp [LTuple.strs]) (by simp [LTuple.strs])
    unfold meansB
    simp only [Bool.and_eq_true]
    exact ⟨⟨⟨⟨⟨h0, h1⟩, h2⟩, h3⟩, h4⟩, h5⟩
theorem empty_yes' {a : ByteArray} (h : a = ⟨#[]⟩) : a.toList.isEmpty = true ∧ (a.toList = []) = True := by subst h; simp
theorem empty_no' {a : ByteArray} (h : a ≠ ⟨#[]⟩) : a.toList.isEmpty = false ∧ (a.toList = []) = False := by
  have : a.toList ≠ [] := fun e => h (bytes_toList_inj (by rw [e]; simp))
  simp [this]
set_option maxRecDepth 100000 in
set_option maxHeartbeats 4000000 in
theorem ref_Means (x t : LTuple) (w : World) : Calls Tryz.prog 29 #[x.val, t.val] w fun e w' => e = .returned (.bool (meansB x t)) ∧ Below w.heap.size w w' := by
  have mixed : Tryz.prog.follows Departure.mixedOrders = true := by kernel_rfl
  have hall := means_all x t
  generalize hr : meansB x t = r at *
  have HALL := Lib.hid hall; clear hall hr
  have hpa := fun W => ref_parts t W
  have HPA := Lib.hid hpa; clear hpa
  unfold LTuple.val at *
  go_enter Tryz.func29, Tryz.ntmps29
  go_wp2_with fail
  refine (HPA.out _).mono ?_
  rintro r1 w1 ⟨v, rfl, hrep, hb1⟩
  have hst : RepD (fun _ => True) (((w.alloc (.cells #[.string x.kind, .string x.id, .string x.rel, .string x.user.kind, .string x.user.id, .string x.user.rel] 26)).alloc (.cells #[.string t.kind, .string t.id, .string t.rel, .string t.user.kind, .string t.user.id, .string t.user.rel] 49)).alloc (.cells #[.string x.kind, .string x.id, .string x.rel, .string x.user.kind, .string x.user.id, .string x.user.rel] 9)) (.slice 1 (x.strs.map fun s => [.str s])) (.slice (some ⟨w.heap.size + 1 + 1, 0, none⟩) 6 6) :=
    repS_of_block (ss := [x.kind, x.id, x.rel, x.user.kind, x.user.id, x.user.rel]) (T := 9) (fr := (0, 0)) (heap_alloc_at (by simp)) trivial (by simp)
  have hst1 := hst.old hb1
  have hB1 : Below w.heap.size w w1 := ((((Below.refl _ w).alloc (Nat.le_refl _) _).alloc (by simp) _).alloc (by simp; omega) _).trans (hb1.mono (by simp; omega))
  obtain ⟨a1, c1, hv1, _, _, hk1⟩ := hrep.strs
  obtain ⟨a2, c2, hv2, _, _, hk2⟩ := hst1.strs
  have ht6 : t.strs.length = 6 := rfl
  have hx6 : x.strs.length = 6 := rfl
  subst hv1
  cases hv2
  have HK1 := Lib.hid hk1; have HK2 := Lib.hid hk2
  clear hk1 hk2 hrep hst hst1 hb1
  rw [ht6]
  go_wp2
  go_loopw [7] (fun i wr => ∃ q : Nat, q ≤ 6 ∧ i = .int .i64 q ∧ Below w1.heap.size w1 wr ∧ Aside (∀ j (hj : j < x.strs.length) (hj' : j < t.strs.length), j < q → isB x.strs[j] t.strs[j] = true)) (fun i _ => 6 - (intOf i).toNat)
  case atStart => exact ⟨0, by omega, rfl, Below.refl _ _, ⟨fun j _ _ h => by omega⟩⟩
  case round =>
    obtain ⟨q, hq, rfl, hB, hF⟩ := hrel
    by_cases hlt : q < 6
    · obtain ⟨b, off, rfl, _, d0⟩ := HK1.out q (by omega)
      obtain ⟨b', off', hb', _, e0⟩ := HK2.out q (by omega)
      cases hb'
      have hbl : b < w1.heap.size := World.block_lt_of_cell? w1 _ d0
      have hbl' : w.heap.size + 1 + 1 < w1.heap.size := World.block_lt_of_cell? w1 _ e0
      rw [← hB.cell (by exact hbl)] at d0
      rw [← hB.cell (by exact hbl'), Nat.zero_add] at e0
      have hnext : isB x.strs[q] t.strs[q] = true → ∀ j (hj : j < x.strs.length) (hj' : j < t.strs.length), j < q + 1 → isB x.strs[j] t.strs[j] = true := by
        intro h j hj hj' hjq
        rcases Nat.lt_or_ge j q with h1 | h1
        · exact hF.out j hj hj' h1
        · have : j = q := by omega
          subst this; exact h
      have hno : isB x.strs[q] t.strs[q] = false → false = r := by
        intro h
        cases r with
        | false => rfl
        | true => have := HALL.out.1 rfl q (by omega) (by omega); exact absurd (h.symm.trans this) (by simp)
      have HNX := Lib.hid hnext; have HNO := Lib.hid hno; clear hnext hno
      generalize x.strs[q] = s at *
      generalize t.strs[q] = z at *
      have hsn : isB s z = (decide (s = ⟨#[]⟩) || decide (s = z)) := rfl
      by_cases h0 : s = ⟨#[]⟩
      · have hn := HNX.out (by rw [hsn]; simp [h0])
        obtain ⟨k1, k2⟩ := empty_yes' h0
        have HN := Lib.hid hn; clear hn h0 hsn
        go_wp2_with fail
        go_region_o
        go_wp2
        first
          | exact ⟨⟨q + 1, by omega, by go_num, hB.drew, ⟨HN.out⟩⟩, by simp [intOf] <;> omega⟩
          | (go_roundw
             case rel => exact ⟨q + 1, by omega, by go_num, hB.drew, ⟨HN.out⟩⟩
             case measure => simp [intOf]; omega)
      · obtain ⟨k1, k2⟩ := empty_no' h0
        by_cases h1 : s = z
        · have hn := HNX.out (by rw [hsn]; simp [h1])
          have HN := Lib.hid hn; clear hn h0 hsn
          subst h1
          go_wp2_with fail
          go_region_o
          go_wp2
          first
            | exact ⟨⟨q + 1, by omega, by go_num, hB.drew, ⟨HN.out⟩⟩, by simp [intOf] <;> omega⟩
            | (go_roundw
               case rel => exact ⟨q + 1, by omega, by go_num, hB.drew, ⟨HN.out⟩⟩
               case measure => simp [intOf]; omega)
        · have hf := HNO.out (by rw [hsn]; simp [h0, h1])
          have HF := Lib.hid hf; clear hf h0 hsn
          have hne := toList_ne h1
          have hne2 : (s.toList = z.toList) = False := by simp; exact fun e => h1 (bytes_toList_inj e)
          go_wp2_with fail
          go_region_o
          go_wp2
          go_ret
          exact ⟨ret_bool HF.out, hB1.trans (hB.drew.mono hB1.size)⟩
    · have ht : true = r := by
        have := HALL.out.2 fun j hj hj' => hF.out j hj hj' (by omega)
        rw [this]
      have HT := Lib.hid ht; clear ht
      go_wp2
      go_ret
      exact ⟨ret_bool HT.out, hB1.trans (hB.mono hB1.size)⟩

/-- A filter in its box, and a list of the call's own that grows. -/
structure FSt (w W : World) (x : LTuple) (vo : Value) (out : List LTuple) : Prop where
  below : Below (w.heap.size + 1) (w.alloc (.cells #[.string x.kind, .string x.id, .string x.rel, .string x.user.kind, .string x.user.id, .string x.user.rel] 26)) W
  own : OwnL W (w.heap.size + 1) 49 6 LTuple.cells vo out
section
variable {w W W' : World} {x : LTuple} {out : List LTuple} {vo : Value}
theorem FSt.size (h : FSt w W x vo out) : w.heap.size + 1 ≤ W.heap.size := by have := h.below.size; simpa using this
theorem FSt.next (h : FSt w W x vo out) (hb : Below W.heap.size W W') : FSt w W' x vo out := ⟨h.below.trans (hb.mono h.size), h.own.below hb⟩
theorem FSt.old (h : FSt w W x vo out) : Below w.heap.size w W := ((Below.refl _ w).alloc (Nat.le_refl _) _).trans (h.below.mono (by omega))
theorem FSt.cells (h : FSt w W x vo out) : W.cell? ⟨w.heap.size, 0, none⟩ = some (.string x.kind) ∧ W.cell? ⟨w.heap.size, 1, none⟩ = some (.string x.id) ∧ W.cell? ⟨w.heap.size, 2, none⟩ = some (.string x.rel) ∧ W.cell? ⟨w.heap.size, 3, none⟩ = some (.string x.user.kind) ∧ W.cell? ⟨w.heap.size, 4, none⟩ = some (.string x.user.id) ∧ W.cell? ⟨w.heap.size, 5, none⟩ = some (.string x.user.rel) := by
  have hb : W.heap[w.heap.size]? = some (.cells #[.string x.kind, .string x.id, .string x.rel, .string x.user.kind, .string x.user.id, .string x.user.rel] 26) := (h.below.block w.heap.size (by simp)).trans (heap_alloc_at rfl)
  refine ⟨?_, ?_, ?_, ?_, ?_, ?_⟩ <;> simp [World.cell?, hb]
end
/-- .. and the tuple that is looked at. -/
structure FZ (w W : World) (x : LTuple) (vo : Value) (out : List LTuple) (b o : Nat) (z : LTuple) : Prop where
  st : FSt w W x vo out
  zs : W.cell? ⟨b, o, none⟩ = some (.string z.kind) ∧ W.cell? ⟨b, o + 1, none⟩ = some (.string z.id) ∧ W.cell? ⟨b, o + 2, none⟩ = some (.string z.rel) ∧ W.cell? ⟨b, o + 3, none⟩ = some (.string z.user.kind) ∧ W.cell? ⟨b, o + 4, none⟩ = some (.string z.user.id) ∧ W.cell? ⟨b, o + 5, none⟩ = some (.string z.user.rel)
theorem FZ.next {w W W' : World} {x z : LTuple} {out : List LTuple} {vo : Value} {b o : Nat} (h : FZ w W x vo out b o z) (hb : Below W.heap.size W W') : FZ w W' x vo out b o z := by
  have hlt : b < W.heap.size := World.block_lt_of_cell? _ _ h.zs.1
  refine ⟨h.st.next hb, ?_⟩
  have hc : ∀ j, W'.cell? ⟨b, j, none⟩ = W.cell? ⟨b, j, none⟩ := fun j => hb.cell (p := ⟨b, j, none⟩) hlt
  simp only [hc]
  exact h.zs
theorem fz_Means {w W : World} {x z : LTuple} {out : List LTuple} {vo : Value} {b o : Nat} (h : FZ w W x vo out b o z) {r : Bool} (hr : meansB x z = r) :
    Calls Tryz.prog 29 #[.agg #[.string x.kind, .string x.id, .string x.rel, .string x.user.kind, .string x.user.id, .string x.user.rel], .agg #[.string z.kind, .string z.id, .string z.rel, .string z.user.kind, .string z.user.id, .string z.user.rel]] W fun e W' => e = .returned (.bool r) ∧ FZ w W' x vo out b o z := by
  subst hr
  refine (ref_Means x z W).mono ?_
  rintro r W' ⟨rfl, hb⟩
  exact ⟨rfl, h.next hb⟩
theorem filter_take_snoc {α : Type} (p : α → Bool) (L : List α) (k : Nat) (hk : k < L.length) : (L.take (k + 1)).filter p = if p L[k] then (L.take k).filter p ++ [L[k]] else (L.take k).filter p := by
  rw [List.take_succ_eq_append_getElem hk, List.filter_append]
  cases h : p L[k] <;> simp [h]
theorem filter_take_cut {α : Type} (p : α → Bool) (L : List α) (k m : Nat) (h : ((L.take k).filter p).length = m) : (L.filter p).take m = (L.take k).filter p := by
  have e : L.filter p = (L.take k).filter p ++ (L.drop k).filter p := by rw [← List.filter_append, List.take_append_drop]
  rw [e, List.take_left' h]
set_option maxRecDepth 100000 in
set_option maxHeartbeats 4000000 in
theorem ref_Find {A : Nat → Prop} {w : World} {L : List LTuple} {u : Value} (hu : RepD A w (.slice 6 (L.map LTuple.d)) u) (hl : L.length ≤ 1000000) (x : LTuple) (most : Int) :
    Calls Tryz.prog 10 #[u, x.val, .int .i64 most] w fun e w' => ∃ v, e = .returned v ∧ OwnL w' w.heap.size 49 6 LTuple.cells v ((L.filter (meansB x)).take most.toNat) ∧ Below w.heap.size w w' := by
  obtain ⟨a, c, rfl, _, _, hk⟩ := hu.tuples
  have HK := Lib.hid hk; clear hk hu
  unfold LTuple.val
  have hO0 := (own_made (w := w.alloc (.cells #[.string x.kind, .string x.id, .string x.rel, .string x.user.kind, .string x.user.id, .string x.user.rel] 26)) (N := w.heap.size + 1) (by simp) 49 6 LTuple.cells)
  have hB0 : Below (w.heap.size + 1) (w.alloc (.cells #[.string x.kind, .string x.id, .string x.rel, .string x.user.kind, .string x.user.id, .string x.user.rel] 26)) ((w.alloc (.cells #[.string x.kind, .string x.id, .string x.rel, .string x.user.kind, .string x.user.id, .string x.user.rel] 26)).alloc (.cells #[] 49)) := (Below.refl _ _).alloc (by simp) _
  have HO0 := Lib.hid hO0; have HB0 := Lib.hid hB0; clear hO0 hB0
  go_enter Tryz.func10, Tryz.ntmps10
  go_wp2
  go_loopw [7, 8] (fun v n wr => ∃ q : Nat, q ≤ L.length ∧ n = .int .i64 q ∧ Aside (FSt w wr x v ((L.take q).filter (meansB x))) ∧ Aside (((L.take q).filter (meansB x)).length ≤ most.toNat)) (fun _ n _ => L.length - (intOf n).toNat)
  case atStart => exact ⟨0, by omega, rfl, ⟨⟨HB0.out, HO0.out⟩⟩, ⟨by simp⟩⟩
  case round =>
    obtain ⟨q, hq, rfl, hS, hM⟩ := hrel
    by_cases hlt : q < L.length
    · by_cases hm : (((L.take q).filter (meansB x)).length : Int) < most
      · obtain ⟨b, off, rfl, _, e0, e1, e2, e3, e4, e5⟩ := HK.out q hlt
        have hbl : b < w.heap.size := World.block_lt_of_cell? w _ e0
        have hB := hS.out.old
        have HZ0 := Lib.hid (And.intro e0 (And.intro e1 (And.intro e2 (And.intro e3 (And.intro e4 e5)))))
        rw [← hB.cell (by exact hbl)] at e0 e1 e2 e3 e4 e5
        have hstep := filter_take_snoc (meansB x) L q hlt
        have hln : ((L.take q).filter (meansB x)).length ≤ q := Nat.le_trans (List.length_filter_le _ _) (by simp; omega)
        generalize (L.take q).filter (meansB x) = out at *
        generalize hz : L[q] = z at *
        clear hz hB
        obtain ⟨ao, co, rfl, hco, _⟩ := hS.out.own.form
        have ST := Lib.hid (FZ.next (⟨hS.out, ⟨e0, e1, e2, e3, e4, e5⟩⟩ : FZ w wr x _ out b (off + q * 6) z) (Below.refl _ wr).drew)
        have hme := fun W (h : FZ w W x (.slice ao out.length co) out b (off + q * 6) z) (r : Bool) (hr : meansB x z = r) => fz_Means h hr
        have hM2 := hM.out
        clear hS hM e0 e1 e2 e3 e4 e5
        cases hb : meansB x z with
        | true =>
          have HME := Lib.hid (fun W h => hme W h true hb)
          rw [hb, if_pos rfl] at hstep
          have HST := Lib.hid hstep
          have hmo : out.length + 1 ≤ most.toNat := by omega
          clear hstep hme hb
          go_wp2_with fail
          go_region_held3 (fun W => (W.cell? ⟨w.heap.size, 0, none⟩ = some (.string x.kind) ∧ W.cell? ⟨w.heap.size, 1, none⟩ = some (.string x.id) ∧ W.cell? ⟨w.heap.size, 2, none⟩ = some (.string x.rel) ∧ W.cell? ⟨w.heap.size, 3, none⟩ = some (.string x.user.kind) ∧ W.cell? ⟨w.heap.size, 4, none⟩ = some (.string x.user.id) ∧ W.cell? ⟨w.heap.size, 5, none⟩ = some (.string x.user.rel)) ∧
              (W.cell? ⟨b, (off + q * 6), none⟩ = some (.string z.kind) ∧ W.cell? ⟨b, (off + q * 6) + 1, none⟩ = some (.string z.id) ∧ W.cell? ⟨b, (off + q * 6) + 2, none⟩ = some (.string z.rel) ∧ W.cell? ⟨b, (off + q * 6) + 3, none⟩ = some (.string z.user.kind) ∧ W.cell? ⟨b, (off + q * 6) + 4, none⟩ = some (.string z.user.id) ∧ W.cell? ⟨b, (off + q * 6) + 5, none⟩ = some (.string z.user.rel)))
            (exact ⟨ST.out.st.cells, ST.out.zs⟩)
            (first | (go_at_call 29; refine (HME.out _ ST.out).mono ?_; rintro e W' ⟨rfl, hx⟩; clear ST; have ST := Lib.hid hx; clear hx))
          all_goals
            obtain ⟨z0, z1, z2, z3, z4, z5⟩ := ST.out.zs
            go_wp2_with (at_builtin; refine wpList_app (w.heap.size + 1) rfl _ _ _ 49 _ 6 96 rfl Tryz.underlying22 info_tuple rfl (by omega) (by omega) LTuple.cells LTuple.len LTuple.one (.slice ao out.length co) out z rfl rfl rfl ST.out.st.own ST.out.st.size (by omega) ?_; intro v1 w4 hO4 hB4 _; have HO4 := Lib.hid (FSt.mk (x := x) (ST.out.st.below.trans hB4) hO4); clear hO4 hB4)
            first
              | exact ⟨⟨q + 1, by omega, by go_num, ⟨by rw [HST.out]; exact HO4.out⟩, ⟨by rw [HST.out]; simp; omega⟩⟩, by simp [intOf] <;> omega⟩
              | (go_roundw
                 case rel => exact ⟨q + 1, by omega, by go_num, ⟨by rw [HST.out]; exact HO4.out⟩, ⟨by rw [HST.out]; simp; omega⟩⟩
                 case measure => simp [intOf]; omega)
        | false =>
          have HME := Lib.hid (fun W h => hme W h false hb)
          rw [hb, if_neg (by simp)] at hstep
          have HST := Lib.hid hstep
          clear hstep hme hb
          go_wp2_with fail
          go_region_held3 (fun W => (W.cell? ⟨w.heap.size, 0, none⟩ = some (.string x.kind) ∧ W.cell? ⟨w.heap.size, 1, none⟩ = some (.string x.id) ∧ W.cell? ⟨w.heap.size, 2, none⟩ = some (.string x.rel) ∧ W.cell? ⟨w.heap.size, 3, none⟩ = some (.string x.user.kind) ∧ W.cell? ⟨w.heap.size, 4, none⟩ = some (.string x.user.id) ∧ W.cell? ⟨w.heap.size, 5, none⟩ = some (.string x.user.rel)) ∧
              (W.cell? ⟨b, (off + q * 6), none⟩ = some (.string z.kind) ∧ W.cell? ⟨b, (off + q * 6) + 1, none⟩ = some (.string z.id) ∧ W.cell? ⟨b, (off + q * 6) + 2, none⟩ = some (.string z.rel) ∧ W.cell? ⟨b, (off + q * 6) + 3, none⟩ = some (.string z.user.kind) ∧ W.cell? ⟨b, (off + q * 6) + 4, none⟩ = some (.string z.user.id) ∧ W.cell? ⟨b, (off + q * 6) + 5, none⟩ = some (.string z.user.rel)))
            (exact ⟨ST.out.st.cells, ST.out.zs⟩)
            (first | (go_at_call 29; refine (HME.out _ ST.out).mono ?_; rintro e W' ⟨rfl, hx⟩; clear ST; have ST := Lib.hid hx; clear hx))
          all_goals
            go_wp2
            first
              | exact ⟨⟨q + 1, by omega, by go_num, ⟨by rw [HST.out]; exact ST.out.st⟩, ⟨by rw [HST.out]; omega⟩⟩, by simp [intOf] <;> omega⟩
              | (go_roundw
                 case rel => exact ⟨q + 1, by omega, by go_num, ⟨by rw [HST.out]; exact ST.out.st⟩, ⟨by rw [HST.out]; omega⟩⟩
                 case measure => simp [intOf]; omega)
      · have hcut := filter_take_cut (meansB x) L q most.toNat (by have := hM.out; omega)
        have HS := Lib.hid hS.out
        have HCUT := Lib.hid hcut
        clear hcut hS hM
        generalize (L.take q).filter (meansB x) = out at *
        obtain ⟨ao, co, rfl, hco, _⟩ := HS.out.own.form
        go_wp2
        go_ret
        exact ⟨_, rfl, by rw [HCUT.out]; exact HS.out.own.rebase (by omega), HS.out.old⟩
    · have e1 : L.take q = L := List.take_of_length_le (by omega)
      have hcut : (L.filter (meansB x)).take most.toNat = L.filter (meansB x) := List.take_of_length_le (by have := hM.out; rwa [e1] at this)
      have hS2 := hS.out
      rw [e1] at hS2
      have HS := Lib.hid hS2
      have HCUT := Lib.hid hcut
      clear hS hS2 hM hcut e1
      go_wp2
      go_ret
      exact ⟨_, rfl, by rw [HCUT.out]; exact HS.out.own.rebase (by omega), HS.out.old⟩
end Go.Proofs.YtnfkjodiielidaaGreat

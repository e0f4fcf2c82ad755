/- FactsUsers: the walk. -/
import Derived.Test.YtnfkjodiielidaaWdrops
import Derived.Deep.RegionHeld3
namespace Go.Proofs.Ytnfkjodiielidaa
set_option linter.unusedVariables false
set_option linter.unusedSimpArgs false
open Go.RowKit

/-- Where a law over a list stands: the set, the list. -/
structure LSt (w W : World) (fb mb : Nat) (S : List LTuple) (v : Value) (l : List LTuple) : Prop where
  facts : FactsAt W fb mb S
  below : Below w.heap.size w W
  rep : RepD (fun b => b < w.heap.size) W (.slice 6 (l.map LTuple.d)) v
section
variable {w W W' : World} {fb mb : Nat} {S S' : List LTuple} {v : Value} {l : List LTuple}
theorem LSt.next (h : LSt w W fb mb S v l) (hb : Below W.heap.size W W') : LSt w W' fb mb S v l := ⟨h.facts.below hb, below_past h.below hb, h.rep.old hb⟩
theorem ls_awake (h : LSt w W fb mb S v l) : Calls Try.prog 9 #[] W fun e W' => e = .returned (.bool true) ∧ LSt w W' fb mb S v l := by
  refine (awake_true W).mono ?_
  rintro e W' ⟨rfl, hb⟩
  exact ⟨rfl, h.next hb⟩
theorem ls_Few (h : LSt w W fb mb S v l) : Calls Try.prog 10 #[v] W fun e W' => e = .returned (.bool (fewB l)) ∧ LSt w W' fb mb S v l := by
  refine (ref_Few h.rep).mono ?_
  rintro e W' ⟨rfl, hb⟩
  exact ⟨rfl, h.next hb⟩
end
theorem empty_yes {a : ByteArray} (h : a = ⟨#[]⟩) : a.toList.isEmpty = true ∧ (a.toList = []) = True := by subst h; simp
theorem empty_no {a : ByteArray} (h : a ≠ ⟨#[]⟩) : a.toList.isEmpty = false ∧ (a.toList = []) = False := by
  have : a.toList ≠ [] := fun e => h (bytes_toList_inj (by rw [e]; simp))
  simp [this]
/-- .. and what Users and Find have answered. -/
structure USt (w W : World) (fb mb : Nat) (S : List LTuple) (v : Value) (l : List LTuple) (gu : Option Addr) (cu : Nat) (gt : Option Addr) (ct : Nat) (L : List LTuple) : Prop where
  st : LSt w W fb mb S v l
  us : OwnL W w.heap.size 30 3 LUser.cells (.slice gu L.length cu) (L.map (·.user))
  ts : OwnL W w.heap.size 32 6 LTuple.cells (.slice gt L.length ct) L
theorem USt.next {w W W' : World} {fb mb : Nat} {S l L : List LTuple} {v : Value} {gu gt : Option Addr} {cu ct : Nat} (h : USt w W fb mb S v l gu cu gt ct L) (hb : Below W.heap.size W W') : USt w W' fb mb S v l gu cu gt ct L :=
  ⟨h.st.next hb, h.us.below hb, h.ts.below hb⟩
theorem USt.places {w W : World} {fb mb : Nat} {S l L : List LTuple} {v : Value} {gu gt : Option Addr} {cu ct : Nat} (h : USt w W fb mb S v l gu cu gt ct L) (hL : 0 < L.length) : ∃ a b, gu = some ⟨a, 0, none⟩ ∧ gt = some ⟨b, 0, none⟩ := by
  rcases h.us.2 with ⟨hn, h0⟩ | ⟨g, cap, cur, hn, _⟩
  · rw [List.length_map] at h0; omega
  · rcases h.ts.2 with ⟨hn', h0⟩ | ⟨g', cap', cur', hn', _⟩
    · omega
    · injection hn with e1
      injection hn' with e2
      exact ⟨g, g', e1, e2⟩
theorem USt.cells {w W : World} {fb mb : Nat} {S l L : List LTuple} {v : Value} {a b : Nat} {cu ct : Nat} (h : USt w W fb mb S v l (some ⟨a, 0, none⟩) cu (some ⟨b, 0, none⟩) ct L) {q : Nat} (hq : q < L.length) {z : LTuple} (hz : L[q] = z) :
    W.cell? ⟨a, q * 3, none⟩ = some (.string z.user.kind) ∧ W.cell? ⟨a, q * 3 + 1, none⟩ = some (.string z.user.id) ∧ W.cell? ⟨a, q * 3 + 2, none⟩ = some (.string z.user.rel) ∧
    W.cell? ⟨b, q * 6, none⟩ = some (.string z.kind) ∧ W.cell? ⟨b, q * 6 + 1, none⟩ = some (.string z.id) ∧ W.cell? ⟨b, q * 6 + 2, none⟩ = some (.string z.rel) ∧
    W.cell? ⟨b, q * 6 + 3, none⟩ = some (.string z.user.kind) ∧ W.cell? ⟨b, q * 6 + 4, none⟩ = some (.string z.user.id) ∧ W.cell? ⟨b, q * 6 + 5, none⟩ = some (.string z.user.rel) := by
  subst hz
  have hu : (L.map (·.user))[q]'(by simpa using hq) = L[q].user := by simp
  have h0 := h.us
  have hml : (L.map (·.user)).length = L.length := by simp
  refine ⟨?_, ?_, ?_, ?_, ?_, ?_, ?_, ?_, ?_⟩
  · exact (h.us.cellAt LUser.len (i := q) (by simpa using hq) (j := 0) (by omega) rfl).trans (by simp [LUser.cells])
  · exact (h.us.cellAt LUser.len (i := q) (by simpa using hq) (j := 1) (by omega) rfl).trans (by simp [LUser.cells])
  · exact (h.us.cellAt LUser.len (i := q) (by simpa using hq) (j := 2) (by omega) rfl).trans (by simp [LUser.cells])
  · exact (h.ts.cellAt LTuple.len (i := q) hq (j := 0) (by omega) rfl)
  · exact (h.ts.cellAt LTuple.len (i := q) hq (j := 1) (by omega) rfl)
  · exact (h.ts.cellAt LTuple.len (i := q) hq (j := 2) (by omega) rfl)
  · exact (h.ts.cellAt LTuple.len (i := q) hq (j := 3) (by omega) rfl)
  · exact (h.ts.cellAt LTuple.len (i := q) hq (j := 4) (by omega) rfl)
  · exact (h.ts.cellAt LTuple.len (i := q) hq (j := 5) (by omega) rfl)
theorem us_Has {w W : World} {fb mb : Nat} {S l L : List LTuple} {v : Value} {gu gt : Option Addr} {cu ct : Nat} (h : USt w W fb mb S v l gu cu gt ct L) (z : LTuple) (hz : z ∈ S) :
    Calls Try.prog 13 #[.pointer (some ⟨fb, 0, none⟩), .agg #[.string z.kind, .string z.id, .string z.rel, .string z.user.kind, .string z.user.id, .string z.user.rel]] W fun e W' => e = .returned (.bool true) ∧ USt w W' fb mb S v l gu cu gt ct L := by
  refine (facts_Has h.st.facts _ _ _ _ _ _).mono ?_
  rintro e W' ⟨rfl, hb⟩
  exact ⟨congrArg (fun b => Ending.returned (.bool b)) (decide_eq_true hz), h.next hb⟩
/-- A filter of an object's relation means its tuples. -/
theorem means_of {k i r : ByteArray} (hk : k ≠ ⟨#[]⟩) (hi : i ≠ ⟨#[]⟩) (hr : r ≠ ⟨#[]⟩) (t : LTuple) : meansB ⟨k, i, r, ⟨⟨#[]⟩, ⟨#[]⟩, ⟨#[]⟩⟩⟩ t = ofB k i r t := by
  have h1 : isB.sNil = ⟨#[]⟩ := rfl
  unfold meansB isB ofB
  rw [h1]
  have e : ∀ a b : ByteArray, decide (a = b) = decide (b = a) := fun a b => by rw [Bool.eq_iff_iff]; simp; exact eq_comm
  simp [hk, hi, hr, e k, e i, e r]
theorem few_length {l : List LTuple} (h : fewB l = true) : l.length ≤ 80 := by
  unfold fewB at h
  simp at h
  exact h.2

set_option maxRecDepth 100000 in
set_option maxHeartbeats 40000000 in
theorem users_walk {w : World} {l : List LTuple} {v : Value} (hv : RepD (fun _ => True) w (.slice 6 (l.map LTuple.d)) v) (hs : Slc v) (hl : l.length ≤ 1048576) (k i r : ByteArray) :
    Calls Try.prog 5 #[v, .string k, .string i, .string r] w fun e w' => e = .returned (.bool true) ∧ Below w.heap.size w w' := by
  have hv2 := hv.old ((Below.refl _ w).alloc (Nat.le_refl _) (.cells #[] 32))
  have hmade := own_made (w := w) (N := w.heap.size) rfl 32 6 LTuple.cells
  have HV := Lib.hid hv2; have HS := Lib.hid hs; have HM := Lib.hid hmade
  have HV0 := Lib.hid (hv.mono (A' := fun b => b < w.heap.size) (fun b _ hlt => hlt))
  clear hv2 hs hmade hv
  go_enter Try.func5, Try.ntmps5
  go_wp2_with (at_builtin; refine wpList_app_in (dd := LTuple.d) w.heap.size rfl _ _ _ 32 _ 6 96 rfl Try.underlying22 info_tuple rfl (by omega) (by omega) LTuple.cells LTuple.len LTuple.one tuple_cell (.slice (some ⟨w.heap.size, 0, none⟩) 0 0) v [] l rfl rfl HV.out HS.out HM.out (by simp) (by simp; omega) ?_; intro v1 w1 hO hb1)
  have hN := facts_New l v1 w1 (hO.tuples (A := fun _ => True) (fun _ _ => trivial) (by simp; omega))
  have HN := Lib.hid hN; clear hN hO HM
  go_wp2_with fail
  refine HN.out.mono ?_
  rintro r w2 ⟨fb, mb, rfl, hfb, hmb, hF, _, hb2⟩
  have hB1 : Below w.heap.size w w1 := ((Below.refl _ w).alloc (Nat.le_refl _) (.cells #[] 32)).trans hb1
  have ST := Lib.hid (show LSt w w2 fb mb (newS l) v l from ⟨hF, below_past hB1 hb2, HV0.out.old (below_past hB1 hb2)⟩)
  clear hF HN HV HV0 hb1 hb2 hB1 hfb hmb
  have hlen : (newS l).length ≤ l.length := newS_length_le l
  have HLEN := Lib.hid hlen; clear hlen
  generalize newS l = S at *
  have c0 := fun W (h : LSt w W fb mb S v l) => ls_Few h
  have hfew : fewB l = true → l.length ≤ 80 := few_length
  generalize fewB l = f1 at *
  have C0 := Lib.hid c0; have HFEW := Lib.hid hfew
  clear c0 hfew
  cases f1
  · go_wp2_with (first
      | (go_at_call 9; with_reducible refine (ls_awake ST.out).mono ?_; rintro r w3 ⟨rfl, hx⟩; clear ST; have ST := Lib.hid hx; clear hx)
      | (go_at_call 10; with_reducible refine (C0.out _ ST.out).mono ?_; rintro r w3 ⟨rfl, hx⟩; clear ST; have ST := Lib.hid hx; clear hx)
)
    go_ret
    exact ⟨rfl, ST.out.below⟩
  by_cases hk : k = ⟨#[]⟩
  · obtain ⟨k1, k2⟩ := empty_yes hk
    clear hk
    go_wp2_with (first
      | (go_at_call 9; with_reducible refine (ls_awake ST.out).mono ?_; rintro r w3 ⟨rfl, hx⟩; clear ST; have ST := Lib.hid hx; clear hx)
      | (go_at_call 10; with_reducible refine (C0.out _ ST.out).mono ?_; rintro r w3 ⟨rfl, hx⟩; clear ST; have ST := Lib.hid hx; clear hx)
)
    go_ret
    exact ⟨rfl, ST.out.below⟩
  by_cases hi : i = ⟨#[]⟩
  · obtain ⟨k1, k2⟩ := empty_no hk
    obtain ⟨i1, i2⟩ := empty_yes hi
    clear hk hi
    go_wp2_with (first
      | (go_at_call 9; with_reducible refine (ls_awake ST.out).mono ?_; rintro r w3 ⟨rfl, hx⟩; clear ST; have ST := Lib.hid hx; clear hx)
      | (go_at_call 10; with_reducible refine (C0.out _ ST.out).mono ?_; rintro r w3 ⟨rfl, hx⟩; clear ST; have ST := Lib.hid hx; clear hx)
)
    go_ret
    exact ⟨rfl, ST.out.below⟩
  by_cases hr : r = ⟨#[]⟩
  · obtain ⟨k1, k2⟩ := empty_no hk
    obtain ⟨i1, i2⟩ := empty_no hi
    obtain ⟨r1, r2⟩ := empty_yes hr
    clear hk hi hr
    go_wp2_with (first
      | (go_at_call 9; with_reducible refine (ls_awake ST.out).mono ?_; rintro r w3 ⟨rfl, hx⟩; clear ST; have ST := Lib.hid hx; clear hx)
      | (go_at_call 10; with_reducible refine (C0.out _ ST.out).mono ?_; rintro r w3 ⟨rfl, hx⟩; clear ST; have ST := Lib.hid hx; clear hx)
)
    go_ret
    exact ⟨rfl, ST.out.below⟩
  have h80 : S.length ≤ 80 := Nat.le_trans HLEN.out (HFEW.out rfl)
  have hus := fun W (h : LSt w W fb mb S v l) => facts_Users h.facts (by omega) k i r
  have hfi := fun W (h : LSt w W fb mb S v l) => facts_Find h.facts (by omega) ⟨k, i, r, ⟨⟨#[]⟩, ⟨#[]⟩, ⟨#[]⟩⟩⟩ 1000
  have hL : ((canon tLess S).filter (meansB ⟨k, i, r, ⟨⟨#[]⟩, ⟨#[]⟩, ⟨#[]⟩⟩⟩)) = (canon tLess S).filter (ofB k i r) := List.filter_congr fun t _ => means_of hk hi hr t
  rw [hL] at hfi
  unfold usersOf at hus
  have hLl : ((canon tLess S).filter (ofB k i r)).length ≤ 80 := Nat.le_trans (List.length_filter_le _ _) (Nat.le_trans (canon_length_le _) h80)
  rw [List.take_of_length_le (by simp; omega)] at hfi
  have hmem : ∀ t ∈ (canon tLess S).filter (ofB k i r), t ∈ S ∧ t.kind = k ∧ t.id = i ∧ t.rel = r := by
    intro t ht
    rw [List.mem_filter, mem_canon] at ht
    obtain ⟨h1, h2⟩ := ht
    unfold ofB at h2
    simp at h2
    exact ⟨h1, h2.1.1, h2.1.2, h2.2⟩
  generalize (canon tLess S).filter (ofB k i r) = L at *
  obtain ⟨k1, k2⟩ := empty_no hk
  obtain ⟨i1, i2⟩ := empty_no hi
  obtain ⟨r1, r2⟩ := empty_no hr
  clear hL hk hi hr h80
  have HUS := Lib.hid hus; have HFI := Lib.hid hfi; have HMEM := Lib.hid hmem
  clear hus hfi hmem
  go_wp2_with (first
      | (go_at_call 9; with_reducible refine (ls_awake ST.out).mono ?_; rintro r w3 ⟨rfl, hx⟩; clear ST; have ST := Lib.hid hx; clear hx)
      | (go_at_call 10; with_reducible refine (C0.out _ ST.out).mono ?_; rintro r w3 ⟨rfl, hx⟩; clear ST; have ST := Lib.hid hx; clear hx)
)
  have HSZ3 := ST.out.below.size
  refine (HUS.out _ ST.out).mono ?_
  rintro q w4 ⟨vu, rfl, hu, hb4⟩
  have S4 := Lib.hid (ST.out.next hb4)
  have HU := Lib.hid hu
  clear hu hb4 ST HUS
  go_wp2_with fail
  refine (HFI.out _ S4.out).mono ?_
  rintro q w5 ⟨vt, rfl, ht, hb5⟩
  have hu5 := HU.out.below hb5
  obtain ⟨gu, cu, rfl, _⟩ := hu5.form
  obtain ⟨gt, ct, rfl, _⟩ := ht.form
  have hml : (L.map (·.user)).length = L.length := by simp
  rw [hml] at hu5 ⊢
  have hsz : w.heap.size ≤ w4.heap.size := S4.out.below.size
  have US := Lib.hid (show USt w w5 fb mb S v l gu cu gt ct L from ⟨S4.out.next hb5, hu5.rebase HSZ3, ht.rebase hsz⟩)
  clear HU S4 hu5 ht hb5 HFI hml
  go_wp2
  go_loopw [12] (fun n wr => ∃ q : Nat, q ≤ L.length ∧ n = .int .i64 q ∧ Aside (USt w wr fb mb S v l gu cu gt ct L)) (fun n _ => L.length - (intOf n).toNat)
  case atStart => exact ⟨0, by omega, rfl, ⟨US.out⟩⟩
  case round =>
    obtain ⟨q, hq, rfl, hU⟩ := hrel
    by_cases hlt : q < L.length
    · obtain ⟨a, b, rfl, rfl⟩ := hU.out.places (by omega)
      obtain ⟨hz0, hz1, hz2, hz3⟩ := HMEM.out L[q] (List.getElem_mem hlt)
      generalize hz : L[q] = z at *
      subst hz1 hz2 hz3
      have ST := Lib.hid (USt.next hU.out (Below.refl _ wr).drew)
      have HZ := Lib.hid hz
      clear hU hz
      have heq : ∀ W, (binOp .neq 30 (.agg #[.string z.user.kind, .string z.user.id, .string z.user.rel]) (.agg #[.string z.user.kind, .string z.user.id, .string z.user.rel])).run Try.prog W = .ok (.bool false) W := fun W => by
        have := user_neq z.user z.user W
        simpa [LUser.val] using this
      go_wp2_with fail
      go_region_held3 (fun W => W.cell? ⟨a, q * 3, none⟩ = some (.string z.user.kind) ∧ W.cell? ⟨a, q * 3 + 1, none⟩ = some (.string z.user.id) ∧ W.cell? ⟨a, q * 3 + 2, none⟩ = some (.string z.user.rel) ∧
          W.cell? ⟨b, q * 6, none⟩ = some (.string z.kind) ∧ W.cell? ⟨b, q * 6 + 1, none⟩ = some (.string z.id) ∧ W.cell? ⟨b, q * 6 + 2, none⟩ = some (.string z.rel) ∧
          W.cell? ⟨b, q * 6 + 3, none⟩ = some (.string z.user.kind) ∧ W.cell? ⟨b, q * 6 + 4, none⟩ = some (.string z.user.id) ∧ W.cell? ⟨b, q * 6 + 5, none⟩ = some (.string z.user.rel))
        (exact ST.out.cells hlt HZ.out)
        (first
          | (go_at_call 13; refine (us_Has ST.out z hz0).mono ?_; rintro r W' ⟨rfl, hx⟩; clear ST; have ST := Lib.hid hx; clear hx))
      all_goals
        go_wp2
        go_roundw
        case rel => exact ⟨q + 1, by omega, by go_num, ⟨ST.out⟩⟩
        case measure => simp [intOf]; omega
    · go_wp2
      go_ret
      exact ⟨rfl, hU.out.st.below⟩
end Go.Proofs.Ytnfkjodiielidaa

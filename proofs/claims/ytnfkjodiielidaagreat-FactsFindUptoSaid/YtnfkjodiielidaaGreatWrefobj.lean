/- The document's layer 13: a kind's names; layer 1: whether two lists of texts are the same. -/
import Derived.Test.YtnfkjodiielidaaGreatWref01
import Derived.Test.YtnfkjodiielidaaGreatWobjects
import Derived.Test.YtnfkjodiielidaaGreatPins
import Derived.Test.YtnfkjodiielidaaGreatAppin
namespace Go.Proofs.YtnfkjodiielidaaGreat
set_option linter.unusedVariables false
set_option linter.unusedSimpArgs false
open Go.RowKit

set_option maxRecDepth 100000 in
set_option maxHeartbeats 1000000 in
theorem ref_Below (a b : ByteArray) (ha : a.size ≤ 300) (w : World) : Calls Tryz.prog 51 #[.string a, .string b] w fun e w' => e = .returned (.bool (ltS a b)) ∧ Below w.heap.size w w' := by
  have hc := ref_below a b ha w
  generalize ltS a b = r at *
  have HC := Lib.hid hc; clear hc
  go_enter Tryz.func51, Tryz.ntmps51
  go_wp2_with fail
  refine HC.out.mono ?_
  rintro e w1 ⟨rfl, hb⟩
  go_wp2
  go_ret
  exact ⟨rfl, hb⟩

set_option maxRecDepth 100000 in
set_option maxHeartbeats 8000000 in
theorem ref_put {w : World} {base : Nat} {xs : List ByteArray} {v : Value} (HO : OwnL w base 9 1 strCells v xs) (hbase : base ≤ w.heap.size) (hr : Rising ltS xs) (hl : xs.length ≤ 100000) (s : ByteArray) (hs : s.size ≤ 300) :
    Calls Tryz.prog 33 #[v, .string s] w fun e w' => ∃ v', e = .returned v' ∧ OwnL w' base 9 1 strCells v' (ins ltS s xs) ∧ Below w.heap.size w w' := by
  have hrep : RepD (fun b => b < w.heap.size) w (.slice 1 (xs.map fun s => [.str s])) v := (HO.strs (A := fun _ => True) (fun _ _ => trivial) (by omega)).mono fun b _ h => h
  obtain ⟨a, c, rfl, _, _, hk⟩ := hrep.strs
  have hO0 := own_made (w := w) (N := w.heap.size) rfl 9 1 strCells
  have hin : s ∈ xs → ins ltS s xs = xs := fun h => ins_mem lin_ltS hr h
  have HK := Lib.hid hk; have HO0 := Lib.hid hO0; have HOO := Lib.hid HO; have HIN := Lib.hid hin
  clear hk hrep hO0 HO hin hr
  go_enter Tryz.func33, Tryz.ntmps33
  go_wp2
  go_loopw [5, 6, 7] (fun vo dn i wr => ∃ (k : Nat) (d : Bool) (out : List ByteArray), k ≤ xs.length ∧ i = .int .i64 k ∧ dn = .bool d ∧ Below w.heap.size w wr ∧ Aside (OwnL wr w.heap.size 9 1 strCells vo out) ∧ Aside (Ins ltS s d out (xs.take k)) ∧ Aside (s ∉ xs.take k)) (fun _ _ i _ => xs.length - (intOf i).toNat)
  case atStart => exact ⟨0, false, [], by omega, rfl, rfl, (Below.refl _ w).alloc (Nat.le_refl _) _, ⟨HO0.out⟩, ⟨Ins.start s⟩, ⟨by simp⟩⟩
  case round =>
    obtain ⟨k, d, out, hk, rfl, rfl, hB, hS, hI, hNM⟩ := hrel
    have holen : out.length ≤ xs.length + 1 := by have := hI.out.length; simp at this; omega
    by_cases hlt : k < xs.length
    · obtain ⟨b, off, rfl, _, e0⟩ := HK.out k hlt
      have hbl : b < w.heap.size := World.block_lt_of_cell? w _ e0
      have HE0 := Lib.hid e0
      rw [← hB.cell (by exact hbl)] at e0
      have hx : xs.take (k + 1) = xs.take k ++ [xs[k]] := List.take_succ_eq_append_getElem hlt
      have hmem : xs[k] ∈ xs := List.getElem_mem hlt
      have HX := Lib.hid hx; have HMEM := Lib.hid hmem
      clear hx hmem
      have hsz := hB.size
      have HS := Lib.hid hS.out
      clear hS
      generalize xs[k] = z at *
      by_cases hzs : z = s
      · subst hzs
        have hii := HIN.out HMEM.out
        have HII := Lib.hid hii
        clear hii
        go_wp2
        go_ret
        exact ⟨_, rfl, by rw [HII.out]; exact HOO.out.below hB, hB⟩
      · have hne := toList_ne hzs
        have hne2 : (z.toList = s.toList) = False := by simp; exact fun e => hzs (bytes_toList_inj e)
        have hnm2 : s ∉ xs.take (k + 1) := by
          rw [HX.out]
          simp only [List.mem_append, List.mem_singleton, not_or]
          exact ⟨hNM.out, fun e => hzs e.symm⟩
        have HNM2 := Lib.hid hnm2
        clear hnm2 hzs
        cases d with
        | true =>
          have hI2 := hI.out.over z
          rw [← HX.out] at hI2
          have HI2 := Lib.hid hI2; clear hI2 hI
          go_wp2_with (at_builtin; refine wpList_app w.heap.size rfl _ _ _ 9 _ 1 16 rfl Tryz.underlying40 info_string rfl (by omega) (by omega) strCells strCells_len strCells_one u5 out z rfl rfl rfl HS.out hsz (by omega) ?_; intro v1 w4 hO4 hB4 _; have HO4 := Lib.hid hO4; clear hO4)
          first
            | exact ⟨⟨k + 1, true, _, by omega, by go_num, rfl, hB.trans hB4, ⟨HO4.out⟩, ⟨HI2.out⟩, ⟨HNM2.out⟩⟩, by simp [intOf] <;> omega⟩
            | (go_roundw
               case rel => exact ⟨k + 1, true, _, by omega, by go_num, rfl, hB.trans hB4, ⟨HO4.out⟩, ⟨HI2.out⟩, ⟨HNM2.out⟩⟩
               case measure => simp [intOf]; omega)
        | false =>
          have hbel := fun W => ref_Below s z hs W
          cases hlb : ltS s z with
          | true =>
            have hI2 := hI.out.here hNM.out hlb
            rw [← HX.out] at hI2
            rw [hlb] at hbel
            have HI2 := Lib.hid hI2; have HBEL := Lib.hid hbel
            clear hI2 hI hlb hbel
            go_wp2_with fail
            refine (HBEL.out _).mono ?_
            rintro e w2 ⟨rfl, hb2⟩
            have hB2 := below_past hB hb2
            have hsz2 := hB2.size
            have hO2 := Lib.hid (HS.out.below hb2)
            have e02 := (hB2.cell (p := ⟨b, off + k, none⟩) hbl).trans HE0.out
            clear e0 hb2
            go_wp2_with (at_builtin; first
              | (refine wpList_app w.heap.size rfl _ _ _ 9 _ 1 16 rfl Tryz.underlying40 info_string rfl (by omega) (by omega) strCells strCells_len strCells_one u5 out s rfl rfl rfl hO2.out hsz2 (by omega) ?_; intro v1 w4 hO4 hB4 _; have HO4 := Lib.hid hO4; have hB3 := hB2.trans hB4; have hsz3 := hB3.size; have e03 := (hB3.cell (p := ⟨b, off + k, none⟩) hbl).trans HE0.out; clear hO4)
              | (refine wpList_app w.heap.size rfl _ _ _ 9 _ 1 16 rfl Tryz.underlying40 info_string rfl (by omega) (by omega) strCells strCells_len strCells_one v1 (out ++ [s]) z rfl rfl rfl HO4.out hsz3 (by simp; omega) ?_; intro v2 w5 hO5 hB5 _; have HO5 := Lib.hid hO5; clear hO5))
            first
              | exact ⟨⟨k + 1, true, _, by omega, by go_num, rfl, hB3.trans hB5, ⟨HO5.out⟩, ⟨HI2.out⟩, ⟨HNM2.out⟩⟩, by simp [intOf] <;> omega⟩
              | (go_roundw
                 case rel => exact ⟨k + 1, true, _, by omega, by go_num, rfl, hB3.trans hB5, ⟨HO5.out⟩, ⟨HI2.out⟩, ⟨HNM2.out⟩⟩
                 case measure => simp [intOf]; omega)
          | false =>
            have hI2 := hI.out.past hlb
            rw [← HX.out] at hI2
            rw [hlb] at hbel
            have HI2 := Lib.hid hI2; have HBEL := Lib.hid hbel
            clear hI2 hI hlb hbel
            go_wp2_with fail
            refine (HBEL.out _).mono ?_
            rintro e w2 ⟨rfl, hb2⟩
            have hB2 := below_past hB hb2
            have hsz2 := hB2.size
            have hO2 := Lib.hid (HS.out.below hb2)
            have e02 := (hB2.cell (p := ⟨b, off + k, none⟩) hbl).trans HE0.out
            clear e0 hb2
            go_wp2_with (at_builtin; refine wpList_app w.heap.size rfl _ _ _ 9 _ 1 16 rfl Tryz.underlying40 info_string rfl (by omega) (by omega) strCells strCells_len strCells_one u5 out z rfl rfl rfl hO2.out hsz2 (by omega) ?_; intro v1 w4 hO4 hB4 _; have HO4 := Lib.hid hO4; clear hO4)
            first
              | exact ⟨⟨k + 1, false, _, by omega, by go_num, rfl, hB2.trans hB4, ⟨HO4.out⟩, ⟨HI2.out⟩, ⟨HNM2.out⟩⟩, by simp [intOf] <;> omega⟩
              | (go_roundw
                 case rel => exact ⟨k + 1, false, _, by omega, by go_num, rfl, hB2.trans hB4, ⟨HO4.out⟩, ⟨HI2.out⟩, ⟨HNM2.out⟩⟩
                 case measure => simp [intOf]; omega)
    · have hkn : xs.take k = xs := List.take_of_length_le (by omega)
      have HS := Lib.hid hS.out
      have hsz := hB.size
      have hnm := hNM.out
      rw [hkn] at hnm
      cases d with
      | true =>
        have hd := hI.out.done
        rw [hkn] at hd
        have HD := Lib.hid hd; clear hd hkn hI hS hnm hNM
        go_wp2
        go_ret
        exact ⟨_, rfl, by rw [← HD.out]; exact HS.out.rebase hbase, hB⟩
      | false =>
        have hd := hI.out.fin (by rw [hkn]; exact hnm)
        rw [hkn] at hd
        have HD := Lib.hid hd; clear hd hkn hI hS hnm hNM
        go_wp2_with (at_builtin; refine wpList_app w.heap.size rfl _ _ _ 9 _ 1 16 rfl Tryz.underlying40 info_string rfl (by omega) (by omega) strCells strCells_len strCells_one u5 out s rfl rfl rfl HS.out hsz (by omega) ?_; intro v1 w4 hO4 hB4 _; have HO4 := Lib.hid hO4; clear hO4)
        go_ret
        exact ⟨_, rfl, by rw [← HD.out]; exact HO4.out.rebase hbase, hB.trans hB4⟩

/-- The same list, step by step. -/
theorem objs_snoc (L : List LTuple) (t : LTuple) (k : ByteArray) : canon ltS ((L ++ [t]).flatMap (objs1 k)) = canon ltS (L.flatMap (objs1 k) ++ objs1 k t) := by rw [List.flatMap_append]; simp
theorem canon_two (S : List ByteArray) (a b : ByteArray) : canon ltS (S ++ [a, b]) = ins ltS b (ins ltS a (canon ltS S)) := by
  rw [show S ++ [a, b] = (S ++ [a]) ++ [b] by simp, canon_snoc lin_ltS, canon_snoc lin_ltS]
set_option maxRecDepth 100000 in
set_option maxHeartbeats 8000000 in
theorem ref_Objects {A : Nat → Prop} {w : World} {L : List LTuple} {u : Value} (hu : RepD A w (.slice 6 (L.map LTuple.d)) u) (hs : ∀ t, t ∈ L → t.id.size ≤ 300 ∧ t.user.id.size ≤ 300) (hl : L.length ≤ 1000) (kind : ByteArray) :
    Calls Tryz.prog 16 #[u, .string kind] w fun e w' => ∃ v, e = .returned v ∧ OwnL w' w.heap.size 9 1 strCells v (canon ltS (L.flatMap (objs1 kind))) ∧ Below w.heap.size w w' := by
  obtain ⟨a, c, rfl, _, _, hk⟩ := hu.tuples
  have HK := Lib.hid hk; have HSZ := Lib.hid hs; clear hk hu hs
  have hO0 := own_made (w := w) (N := w.heap.size) rfl 9 1 strCells
  have HO0 := Lib.hid hO0; clear hO0
  go_enter Tryz.func16, Tryz.ntmps16
  go_wp2
  go_loopw [5, 6] (fun v n wr => ∃ q : Nat, q ≤ L.length ∧ n = .int .i64 q ∧ Aside (OwnL wr w.heap.size 9 1 strCells v (canon ltS ((L.take q).flatMap (objs1 kind)))) ∧ Below w.heap.size w wr) (fun _ n _ => L.length - (intOf n).toNat)
  case atStart => exact ⟨0, by omega, rfl, ⟨HO0.out⟩, (Below.refl _ w).alloc (Nat.le_refl _) _⟩
  case round =>
    obtain ⟨q, hq, rfl, hO, hB⟩ := hrel
    by_cases hlt : q < L.length
    · obtain ⟨b, off, rfl, _, e0, e1, e2, e3, e4, e5⟩ := HK.out q hlt
      have hbl : b < w.heap.size := World.block_lt_of_cell? w _ e0
      have HE := Lib.hid (And.intro e0 (And.intro e1 (And.intro e2 (And.intro e3 (And.intro e4 e5)))))
      rw [← hB.cell (by exact hbl)] at e0 e1 e2 e3 e4 e5
      have hstep := objs_snoc (L.take q) L[q] kind
      rw [← List.take_succ_eq_append_getElem hlt] at hstep
      have hln : (canon ltS ((L.take q).flatMap (objs1 kind))).length ≤ 2000 := Nat.le_trans (canon_length_le _) (Nat.le_trans (objs_len _ _) (by simp; omega))
      have hri := rising_canon lin_ltS ((L.take q).flatMap (objs1 kind))
      obtain ⟨hz1, hz2⟩ := HSZ.out _ (List.getElem_mem hlt)
      have hc1 := fun s => canon_snoc lin_ltS ((L.take q).flatMap (objs1 kind)) s
      have hc2 := fun s s' => canon_two ((L.take q).flatMap (objs1 kind)) s s'
      generalize (L.take q).flatMap (objs1 kind) = F at *
      generalize L[q] = t at *
      have HO := Lib.hid hO.out
      clear hO
      have hsz := hB.size
      have d0 := toList_beq t.kind kind
      have d3 := toList_beq t.user.kind kind
      by_cases h0 : t.kind = kind
      · have hp1 := ref_put HO.out hsz hri (by omega) t.id hz1
        have HP1 := Lib.hid hp1
        clear hp1
        by_cases h3 : t.user.kind = kind
        · have hst := hstep.trans ((congrArg (fun x => canon ltS (F ++ x)) (show objs1 kind t = [t.id, t.user.id] by unfold objs1; simp [h0, h3])).trans (hc2 _ _))
          have HST := Lib.hid hst
          have hri2 := rising_ins lin_ltS t.id hri
          have hln2 := ins_length (lt := ltS) (t := t.id) (p := canon ltS F)
          simp only [h0, h3, decide_true] at d0 d3
          clear hst hstep hc1 hc2
          subst h0
          go_wp2_with fail
          refine HP1.out.mono ?_
          rintro e w2 ⟨v2, rfl, ho2, hb2⟩
          have hB2 := below_past hB hb2
          have hp2 := ref_put ho2 hB2.size hri2 (by omega) t.user.id hz2
          have HP2 := Lib.hid hp2
          obtain ⟨e0', e1', e2', e3', e4', e5'⟩ := HE.out
          rw [← hB2.cell (by exact hbl)] at e0' e1' e2' e3' e4' e5'
          clear hp2 ho2 hb2 e0 e1 e2 e3 e4 e5
          go_wp2_with fail
          refine HP2.out.mono ?_
          rintro e w3 ⟨v3, rfl, ho3, hb3⟩
          have HO3 := Lib.hid ho3
          have hB3 := below_past hB2 hb3
          clear ho3 hb3
          go_wp2
          first
            | exact ⟨⟨q + 1, by omega, by go_num, ⟨by rw [HST.out]; exact HO3.out⟩, hB3⟩, by simp [intOf] <;> omega⟩
            | (go_roundw
               case rel => exact ⟨q + 1, by omega, by go_num, ⟨by rw [HST.out]; exact HO3.out⟩, hB3⟩
               case measure => simp [intOf]; omega)
        · have hst := hstep.trans ((congrArg (fun x => canon ltS (F ++ x)) (show objs1 kind t = [t.id] by unfold objs1; simp [h0, h3])).trans (hc1 _))
          have HST := Lib.hid hst
          simp only [h0, h3, decide_true, decide_false] at d0 d3
          clear hst hstep hc1 hc2 h3
          subst h0
          go_wp2_with fail
          refine HP1.out.mono ?_
          rintro e w2 ⟨v2, rfl, ho2, hb2⟩
          have hB2 := below_past hB hb2
          obtain ⟨e0', e1', e2', e3', e4', e5'⟩ := HE.out
          rw [← hB2.cell (by exact hbl)] at e0' e1' e2' e3' e4' e5'
          have HO3 := Lib.hid ho2
          clear ho2 hb2 e0 e1 e2 e3 e4 e5
          go_wp2
          first
            | exact ⟨⟨q + 1, by omega, by go_num, ⟨by rw [HST.out]; exact HO3.out⟩, hB2⟩, by simp [intOf] <;> omega⟩
            | (go_roundw
               case rel => exact ⟨q + 1, by omega, by go_num, ⟨by rw [HST.out]; exact HO3.out⟩, hB2⟩
               case measure => simp [intOf]; omega)
      · by_cases h3 : t.user.kind = kind
        · have hst := hstep.trans ((congrArg (fun x => canon ltS (F ++ x)) (show objs1 kind t = [t.user.id] by unfold objs1; simp [h0, h3])).trans (hc1 _))
          have HST := Lib.hid hst
          have hp1 := ref_put HO.out hsz hri (by omega) t.user.id hz2
          have HP1 := Lib.hid hp1
          simp only [h0, h3, decide_true, decide_false] at d0 d3
          clear hst hstep hc1 hc2 hp1 h0
          subst h3
          go_wp2_with fail
          refine HP1.out.mono ?_
          rintro e w2 ⟨v2, rfl, ho2, hb2⟩
          have hB2 := below_past hB hb2
          have HO3 := Lib.hid ho2
          clear ho2 hb2
          go_wp2
          first
            | exact ⟨⟨q + 1, by omega, by go_num, ⟨by rw [HST.out]; exact HO3.out⟩, hB2⟩, by simp [intOf] <;> omega⟩
            | (go_roundw
               case rel => exact ⟨q + 1, by omega, by go_num, ⟨by rw [HST.out]; exact HO3.out⟩, hB2⟩
               case measure => simp [intOf]; omega)
        · have hst := hstep.trans ((congrArg (fun x => canon ltS (F ++ x)) (show objs1 kind t = [] by unfold objs1; simp [h0, h3])).trans (by rw [List.append_nil]))
          have HST := Lib.hid hst
          simp only [h0, h3, decide_false] at d0 d3
          clear hst hstep hc1 hc2 h0 h3
          go_wp2
          first
            | exact ⟨⟨q + 1, by omega, by go_num, ⟨by rw [HST.out]; exact HO.out⟩, hB⟩, by simp [intOf] <;> omega⟩
            | (go_roundw
               case rel => exact ⟨q + 1, by omega, by go_num, ⟨by rw [HST.out]; exact HO.out⟩, hB⟩
               case measure => simp [intOf]; omega)
    · have hO2 := hO.out
      rw [List.take_of_length_le (by omega)] at hO2
      have HO2 := Lib.hid hO2; clear hO2 hO
      go_wp2
      go_ret
      exact ⟨_, rfl, HO2.out, hB⟩
end Go.Proofs.YtnfkjodiielidaaGreat

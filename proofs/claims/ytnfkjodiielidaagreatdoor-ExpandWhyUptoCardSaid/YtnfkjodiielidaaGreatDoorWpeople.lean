/- People: the users that tuples name, sorted, each once. -/
import Derived.Test.YtnfkjodiielidaaGreatDoorWrow
import Derived.Shelf.RegionOpenPlain
import Derived.Test.YtnfkjodiielidaaGreatDoorWwhich
namespace Go.Proofs.YtnfkjodiielidaaGreatDoor
set_option linter.unusedVariables false
set_option linter.unusedSimpArgs false
open Go.RowKit

theorem user_eql (x y : LUser) (w : World) : (binOp .eql 25 x.val y.val).run Tryz.prog w = .ok (.bool (decide (x = y))) w := by
  by_cases h : x = y
  · subst h; rw [user_eql_yes]; simp
  · rw [user_eql_no h]; simp [h]
theorem user_neq (x y : LUser) (w : World) : (binOp .neq 25 x.val y.val).run Tryz.prog w = .ok (.bool (!decide (x = y))) w := by
  by_cases h : x = y
  · subst h; unfold LUser.val; go_simp
  · have e : (!decide (x = y)) = true := by simp [h]
    rw [e]
    obtain ⟨a, b, c⟩ := x
    obtain ⟨a', b', c'⟩ := y
    unfold LUser.val
    go_simp
    intro h1 h2 h3
    exact h (by rw [bytes_toList_inj h1, bytes_toList_inj h2, bytes_toList_inj h3])

set_option maxRecDepth 100000 in
set_option maxHeartbeats 2000000 in
theorem compact_users {w : World} {base : Nat} {v : Value} {xs : List LUser} (h : OwnL w base 25 3 LUser.cells v xs) (hl : xs.length ≤ 140737488355328) :
    Calls Tryz.prog 74 #[v] w fun e w' => ∃ v', e = .returned v' ∧ OwnL w' base 25 3 LUser.cells v' (Lib.compact xs) ∧ Below base w w' := by
  have same : (∀ j, j < xs.length → Lib.keeps xs.toArray j = true) → Lib.compact xs = xs := fun hk => Lib.compact_all xs hk
  by_cases h2 : xs.length < 2
  · have e : Lib.compact xs = xs := same fun j hj => Lib.keeps_lt_one _ j (by omega)
    obtain ⟨a, c, rfl, _⟩ := h.form
    have H := Lib.hid h; clear h same
    go_enter Tryz.func74, Tryz.ntmps74
    go_wp2
    go_ret
    exact ⟨_, rfl, by rw [e]; exact H.out, Below.refl _ _⟩
  · obtain ⟨g, cap, rfl⟩ : ∃ g cap, v = .slice (some ⟨g, 0, none⟩) xs.length cap := by
      rcases h.2 with ⟨_, h1⟩ | ⟨g, cap, cur, hv, _⟩
      · omega
      · exact ⟨g, cap, hv⟩
    have HS := Lib.hid same; clear same
    have hg := (h.block g rfl).1
    have hgl := (h.block g rfl).2
    have hcap := h.size_le
    have H := Lib.hid h; clear h
    go_enter Tryz.func74, Tryz.ntmps74
    go_wp2
    go_loopw [3] (fun s3 wr => ∃ k : Nat, 1 ≤ k ∧ k ≤ xs.length ∧ s3 = .int .i64 k ∧ Aside (OwnL wr base 25 3 LUser.cells (.slice (some ⟨g, 0, none⟩) xs.length cap) xs) ∧ Below base w wr ∧ Aside (∀ j, j < k → Lib.keeps xs.toArray j = true))
      (fun s3 _ => xs.length - (intOf s3).toNat)
    case atStart => exact ⟨1, Nat.le_refl _, by omega, rfl, ⟨H.out⟩, Below.refl _ _, ⟨Lib.keeps_lt_one _⟩⟩
    case round =>
      obtain ⟨k, hk1, hk, rfl, hO, hB, hall⟩ := hrel
      by_cases hlt : k < xs.length
      · have c0 := hO.out.cellAt LUser.len hlt (j := 0) (by omega) rfl
        have c1 := hO.out.cellAt LUser.len hlt (j := 1) (by omega) rfl
        have c2 := hO.out.cellAt LUser.len hlt (j := 2) (by omega) rfl
        have d0 := hO.out.cellAt LUser.len (i := k - 1) (by omega) (j := 0) (by omega) rfl
        have d1 := hO.out.cellAt LUser.len (i := k - 1) (by omega) (j := 1) (by omega) rfl
        have d2 := hO.out.cellAt LUser.len (i := k - 1) (by omega) (j := 2) (by omega) rfl
        simp only [LUser.cells, List.getElem_cons_zero, List.getElem_cons_succ, Nat.add_zero] at c0 c1 c2 d0 d1 d2
        have mixed : Tryz.prog.follows Departure.mixedOrders = true := by kernel_rfl
        have hx : xs.toArray[k]! = xs[k] := by rw [getElem!_pos xs.toArray k (by simpa using hlt)]; simp
        have hy : xs.toArray[k - 1]! = xs[k - 1] := by rw [getElem!_pos xs.toArray (k - 1) (by simp; omega)]; simp
        have HX := Lib.hid hx; have HY := Lib.hid hy; clear hx hy
        generalize xs[k] = x at *
        generalize xs[k - 1] = y at *
        have heq := user_eql x y
        unfold LUser.val at heq
        by_cases hdup : x = y
        · have hkd := Lib.keeps_neg (d := xs.toArray) (m := k) (by omega) (by rw [HX.out, HY.out]; exact hdup)
          have hinv := Lib.CompInv.start hall.out hkd
          have HI := Lib.hid hinv
          rw [show decide (x = y) = true by simp [hdup]] at heq
          clear hkd hinv hall HX HY hdup
          go_wp2_with fail
          go_region_o
          have hO1 := hO.out.below (Below.refl _ wr).drew
          have hB1 := hB.drew
          have HO := Lib.hid hO1
          clear hO hO1 hB c0 c1 c2 d0 d1 d2 heq
          go_wp2
          go_loopw [3, 5] (fun s3 s5 wr => ∃ (kk k2 : Nat) (dk : List LUser), s3 = .int .i64 kk ∧ s5 = .int .i64 k2 ∧ 1 ≤ k2 ∧ k + k2 ≤ xs.length ∧ kk < k + k2 ∧ dk.length = xs.length ∧ Aside (OwnL wr base 25 3 LUser.cells (.slice (some ⟨g, 0, none⟩) xs.length cap) dk) ∧ Below base w wr ∧ Aside (Lib.CompInv xs.toArray (k + k2) kk dk.toArray))
            (fun _ s5 _ => xs.length - (k + (intOf s5).toNat))
          case atStart => exact ⟨k, 1, xs, rfl, rfl, Nat.le_refl _, by omega, by omega, rfl, ⟨HO.out⟩, hB1, ⟨HI.out⟩⟩
          case round =>
            clear hB1 HO HI
            obtain ⟨kk, k2, dk, rfl, rfl, h1, hle, hkk, hds, hO, hB, hI⟩ := hrel
            by_cases hlt2 : k + k2 < xs.length
            · have c0 := hO.out.cellAt LUser.len (i := k + k2) (by omega) (j := 0) (by omega) (o := k * 3 + k2 * 3) (by omega)
              have c1 := hO.out.cellAt LUser.len (i := k + k2) (by omega) (j := 1) (by omega) (o := k * 3 + k2 * 3 + 1) (by omega)
              have c2 := hO.out.cellAt LUser.len (i := k + k2) (by omega) (j := 2) (by omega) (o := k * 3 + k2 * 3 + 2) (by omega)
              have d0 := hO.out.cellAt LUser.len (i := k + k2 - 1) (by omega) (j := 0) (by omega) (o := k * 3 + (k2 - 1) * 3) (by omega)
              have b0 := hO.out.cellAt LUser.len (i := kk) (by omega) (j := 0) (by omega) rfl
              have d1 := hO.out.cellAt LUser.len (i := k + k2 - 1) (by omega) (j := 1) (by omega) (o := k * 3 + (k2 - 1) * 3 + 1) (by omega)
              have b1 := hO.out.cellAt LUser.len (i := kk) (by omega) (j := 1) (by omega) rfl
              have d2 := hO.out.cellAt LUser.len (i := k + k2 - 1) (by omega) (j := 2) (by omega) (o := k * 3 + (k2 - 1) * 3 + 2) (by omega)
              have b2 := hO.out.cellAt LUser.len (i := kk) (by omega) (j := 2) (by omega) rfl
              simp only [LUser.cells, List.getElem_cons_zero, List.getElem_cons_succ, Nat.add_zero] at c0 c1 c2 d0 d1 d2 b0 b1 b2
              have hfz := fun o => hO.out.frozenAt o
              have hx : xs.toArray[k + k2]! = dk[k + k2] := by
                have := hI.out.high (k + k2) (by omega)
                rw [← this, getElem!_pos dk.toArray (k + k2) (by simp; omega)]; simp
              have hy : xs.toArray[k + k2 - 1]! = dk[k + k2 - 1] := by
                have := hI.out.high (k + k2 - 1) (by omega)
                rw [← this, getElem!_pos dk.toArray (k + k2 - 1) (by simp; omega)]; simp
              have HX := Lib.hid hx; have HY := Lib.hid hy; clear hx hy
              generalize dk[k + k2] = x at *
              generalize dk[k + k2 - 1] = y at *
              have heq := user_neq x y
              unfold LUser.val at heq
              by_cases hdup : x = y
              · have hkd := Lib.keeps_neg (d := xs.toArray) (m := k + k2) (by omega) (by rw [HX.out, HY.out]; exact hdup)
                have hinv := hI.out.skip hkd
                have HI := Lib.hid hinv
                rw [show (!decide (x = y)) = false by simp [hdup]] at heq
                clear hkd hinv HX HY hdup
                go_wp2_with fail
                go_region_o
                go_wp2
                have hO1 := hO.out.below (Below.refl _ wr).drew
                go_roundw
                case rel => exact ⟨kk, k2 + 1, dk, rfl, by go_num, by omega, by omega, by omega, hds, ⟨hO1⟩, hB.drew, ⟨HI.out⟩⟩
                case measure => simp [intOf]; omega
              · have hkd := Lib.keeps_pos (d := xs.toArray) (m := k + k2) (by rw [HX.out, HY.out]; exact hdup)
                have hinv := hI.out.keep (by simpa using hlt2) hkd
                rw [HX.out] at hinv
                have HI := Lib.hid hinv
                rw [show (!decide (x = y)) = true by simp [hdup]] at heq
                clear hkd hinv HX HY hdup
                go_wp2_with fail
                go_region_o
                go_wp2
                have hO1 := (hO.out.setRow LUser.len (i := kk) (by omega) x rfl).below (Below.refl _ _).drew
                have hB1 := (hB.trans (below_setCells hg x.cells (kk * 3) wr (by have := hB.size; omega))).drew
                go_roundw
                case rel => exact ⟨kk + 1, k2 + 1, dk.set kk x, by go_num, by go_num, by omega, by omega, by omega, by simpa using hds, ⟨hO1⟩, hB1, ⟨by have := HI.out; rwa [List.setIfInBounds_toArray] at this⟩⟩
                case measure => simp [intOf]; omega
            · have hend : k + k2 = xs.length := by omega
              have hzz : ∀ w, (zeroValue 25).run Tryz.prog w = .ok (.agg #[.string ⟨#[]⟩, .string ⟨#[]⟩, .string ⟨#[]⟩]) w := fun w => by kernel_rfl
              have hc1 : ∀ j, j < (xs.length - kk) * 3 → (wr.cell? ⟨g, kk * 3 + j, none⟩).isSome = true := fun j hj => by
                have hd := Nat.div_add_mod j 3
                have hm := Nat.mod_lt j (show 0 < 3 by omega)
                rw [hO.out.cellAt LUser.len (i := kk + j / 3) (by omega) (j := j % 3) hm (o := kk * 3 + j) (by omega)]
                rfl
              have hcl : ∀ ty, (Builtin.clear_ #[29] ty #[.slice (some ⟨g, kk * 3, none⟩) (xs.length - kk) (cap - kk)]).run Tryz.prog wr = .ok (.tuple #[]) (wr.setCells g (kk * 3) (Builtin.zeroCells (#[.string ⟨#[]⟩, .string ⟨#[]⟩, .string ⟨#[]⟩] : Array Value) (xs.length - kk)).toList) :=
                fun ty => run_clear_rows wr _ _ ty _ Tryz.underlying29 hzz (fun i _ => by
                  have : i % 3 < 3 := Nat.mod_lt _ (by omega)
                  show ((#[.string ⟨#[]⟩, .string ⟨#[]⟩, .string ⟨#[]⟩] : Array Value)[i % 3]!).oneCell' = true
                  rw [getElem!_pos _ _ (by simpa using this)]
                  generalize i % 3 = q at *
                  match q with
                  | 0 => rfl
                  | 1 => rfl
                  | 2 => rfl) g (kk * 3) _ _ (by omega) hc1 (fun j => hO.out.frozenAt j)
              have hfin : OwnL (wr.setCells g (kk * 3) (Builtin.zeroCells (#[.string ⟨#[]⟩, .string ⟨#[]⟩, .string ⟨#[]⟩] : Array Value) (xs.length - kk)).toList) base 25 3 LUser.cells (.slice (some ⟨g, 0, none⟩) kk cap) (Lib.compact xs) := by
                have hI2 := hI.out
                rw [hend] at hI2
                have e : Lib.compact xs = dk.take kk := by
                  unfold Lib.compact
                  have hl1 : (Lib.compactUpTo xs.toArray xs.length).length = kk := by simpa using hI2.len
                  apply List.ext_getElem (by simp [hl1]; omega)
                  intro j h1 h2
                  have hj : j < kk := by omega
                  have := hI2.low j hj
                  rw [List.getElem?_eq_getElem (by simpa using h1), getElem!_pos dk.toArray j (by simp; omega)] at this
                  simpa using this
                rw [e]
                have hq := hO.out.cut LUser.len (m := kk) (by omega)
                refine hq.behind _ (by simp; omega) ?_
                have := zeroCells_length (.agg #[.string ⟨#[]⟩, .string ⟨#[]⟩, .string ⟨#[]⟩]) (xs.length - kk)
                have h3 : (Builtin.zeroCells (#[.string ⟨#[]⟩, .string ⟨#[]⟩, .string ⟨#[]⟩] : Array Value) (xs.length - kk)).toList.length = (xs.length - kk) * 3 := this
                rw [h3]
                have := hO.out.size_le.1
                omega
              have hB1 := hB.trans (below_setCells hg (Builtin.zeroCells (#[.string ⟨#[]⟩, .string ⟨#[]⟩, .string ⟨#[]⟩] : Array Value) (xs.length - kk)).toList (kk * 3) wr (by have := hB.size; omega))
              have HF := Lib.hid hfin
              have hsl := hO.out.size_le
              clear hfin hc1 hzz hI hO
              go_wp2
              go_ret
              exact ⟨_, rfl, HF.out, hB1⟩
        · have hkd := Lib.keeps_pos (d := xs.toArray) (m := k) (by rw [HX.out, HY.out]; exact hdup)
          have HK := Lib.hid hkd
          rw [show decide (x = y) = false by simp [hdup]] at heq
          clear hkd HX HY hdup
          go_wp2_with fail
          go_region_o
          go_wp2
          go_roundw
          case rel =>
            refine ⟨k + 1, by omega, by omega, by go_num, ⟨hO.out.below (Below.refl _ wr).drew⟩, hB.drew, ⟨fun j hj => ?_⟩⟩
            by_cases e : j = k
            · subst e; exact HK.out
            · exact hall.out j (by omega)
          case measure => simp [intOf]; omega
      · have hkk : k = xs.length := by omega
        subst hkk
        go_wp2
        go_ret
        exact ⟨_, rfl, by rw [HS.out hall.out]; exact hO.out, hB⟩

/-- The users that tuples name, in order. -/
def peopleOf (S : List LTuple) : List LUser := canon uLess (S.map (·.user))
set_option maxRecDepth 100000 in
set_option maxHeartbeats 1000000 in
theorem facts_People {w : World} {fb mb : Nat} {S : List LTuple} (h : FactsAt w fb mb S) (hS : S.length ≤ 1000000000000) :
    Calls Tryz.prog 41 #[.pointer (some ⟨fb, 0, none⟩)] w fun r w' => ∃ v, r = .returned v ∧ OwnL w' w.heap.size 25 3 LUser.cells v (peopleOf S) ∧ Below w.heap.size w w' := by
  have hmlt := h.2.lt
  have hflt := h.lt
  obtain ⟨o, hrg, hit⟩ := IterAt.start (P := Tryz.prog) Tryz.underlying88 h.2
  have hcell := h.1
  clear h
  have HI := Lib.hid hit; clear hit
  have HM := Lib.hid hmlt; clear hmlt
  go_enter Tryz.func41, Tryz.ntmps41
  go_wp2
  go_loopw [3] (fun v wr => ∃ (L : List LUser) (left : List (LTuple × Unit)), Aside (OwnL wr (w.heap.size + 1) 25 3 LUser.cells v L) ∧ Aside (IterAt wr w.heap.size mb LTuple.val oneV (S.map fun t => (t, ())) left) ∧ Below w.heap.size w wr ∧
      Aside ((L ++ (left.map (·.1.user))).Perm (S.map (·.user))))
    (fun _ wr => wr.rangeLeft mb w.heap.size)
  case atStart => exact ⟨[], _, ⟨OwnL.nil _ _ _ _ _⟩, ⟨HI.out⟩, (Below.refl _ w).alloc (Nat.le_refl _) _, ⟨by simp [Function.comp_def]⟩⟩
  case round =>
    obtain ⟨L, left, hO, hI, hB, hPm⟩ := hrel
    have hLs : L.length ≤ S.length := by
      have := hPm.out.length_eq
      simp at this; omega
    rcases hI.out.next (P := Tryz.prog) with ⟨h0, hnx⟩ | ⟨⟨t, u0⟩, left', w2, hpm, hnx, hit2, hfr, hsz, hen⟩
    · have hfin : L.Perm (S.map (·.user)) := by have := hPm.out; rw [h0] at this; simpa using this
      have HF := Lib.hid hfin; clear hfin hPm hI
      have hsort := fun W v (hO : OwnL W (w.heap.size + 1) 25 3 LUser.cells v L) => sort_users 73 (fun x y W => people1 x y W) (enters_of Tryz.func73 (by kernel_rfl) rfl) hO (by omega)
      have HS := Lib.hid hsort; clear hsort
      clear h0
      go_wp2_with fail
      refine (HS.out _ _ hO.out).mono ?_
      rintro r w3 ⟨rfl, ys, hpe, hpw, hO3, hB3⟩
      have hcon := compact_users hO3 (by have := hpe.length_eq; omega)
      rw [compact_sorted lin_uLess ys hpw, canon_ext lin_uLess (l := ys) (l' := S.map (·.user)) (fun x => hpe.mem_iff.trans HF.out.mem_iff)] at hcon
      have HC := Lib.hid hcon
      clear hcon hO3 hO hpe hpw
      go_wp2_with fail
      refine HC.out.mono ?_
      rintro r w4 ⟨v', rfl, hO4, hB4⟩
      have HO4 := Lib.hid hO4; clear hO4
      go_wp2
      go_ret
      exact ⟨_, rfl, HO4.out.rebase (by omega), (hB.trans (hB3.mono (by omega))).trans (hB4.mono (by omega))⟩
    · have hB2 : Below w.heap.size w w2 := hB.trans (hfr.below hB.size (fun k hk e => by omega))
      have hO2 := hO.out.fr hfr (fun k hk e => by have := (hO.out.block k hk).1; omega)
      have hMr := hI.out.left_eq
      have hlt2 : w.heap.size + 1 ≤ w2.heap.size := hit2.lt
      have hleft : left.length = left'.length + 1 := by rw [hpm.length_eq]; rfl
      have hfin : ((L ++ [t.user]) ++ (left'.map (·.1.user))).Perm (S.map (·.user)) := by
        have h1 := hpm.map (·.1.user)
        simp only [List.map_cons] at h1
        rw [List.append_assoc]
        exact (h1.symm.append_left L).trans hPm.out
      have hb0 : Below w2.heap.size w2 (w2.alloc (.cells #[.string t.kind, .string t.id, .string t.rel, .string t.user.kind, .string t.user.id, .string t.user.rel] 61)) := (Below.refl _ w2).alloc (Nat.le_refl _) _
      have HF := Lib.hid hfin
      have HO2 := Lib.hid (hO2.below hb0)
      have HI2 := Lib.hid (hit2.below hb0)
      have HMR := Lib.hid hMr
      have HL := Lib.hid hleft
      clear hfin hO2 hit2 hMr hleft hO hI hPm hpm hfr hb0 hsz
      unfold LTuple.val at hnx hen
      have hN : w2.heap.size + 1 = (w2.alloc (.cells #[.string t.kind, .string t.id, .string t.rel, .string t.user.kind, .string t.user.id, .string t.user.rel] 61)).heap.size := by simp
      have HN := Lib.hid hN; clear hN
      have hb1 : w.heap.size + 1 ≤ (w2.alloc (.cells #[.string t.kind, .string t.id, .string t.rel, .string t.user.kind, .string t.user.id, .string t.user.rel] 61)).heap.size := by simp; omega
      have hb2 : (L.length + 1) * 48 ≤ 140737488355328 := by omega
      have hB3 : Below w.heap.size w (w2.alloc (.cells #[.string t.kind, .string t.id, .string t.rel, .string t.user.kind, .string t.user.id, .string t.user.rel] 61)) := hB2.alloc hB2.size _
      go_wp2_with (at_builtin; refine wpList_app (w.heap.size + 1) rfl _ _ _ 25 _ 3 48 rfl Tryz.underlying29 info_user rfl (by omega) (by omega) LUser.cells LUser.len LUser.one u3 L t.user rfl rfl HN.out HO2.out hb1 hb2 ?_; intro v1 w4 hO4 hB4' _)
      have hsz4 := hB4'.size
      have hI4 := HI2.out.kept (hB4'.block w.heap.size (by omega)) (hB4'.block mb (by have := HM.out; omega))
      exact ⟨⟨L ++ [t.user], left', ⟨hO4⟩, ⟨hI4⟩, hB3.trans (hB4'.mono (by omega)), ⟨HF.out⟩⟩, by rw [hI4.left_eq, HMR.out, HL.out]; omega⟩
end Go.Proofs.YtnfkjodiielidaaGreatDoor

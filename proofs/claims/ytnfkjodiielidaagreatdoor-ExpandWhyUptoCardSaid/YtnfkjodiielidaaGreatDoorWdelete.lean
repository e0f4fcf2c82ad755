/- Users of the call's own, without those of which something holds. -/
import Derived.Test.YtnfkjodiielidaaGreatDoorWrfind
import Derived.Test.YtnfkjodiielidaaGreatDoorWpeople
import Derived.Test.YtnfkjodiielidaaGreatDoorWclone
namespace Go.Proofs.YtnfkjodiielidaaGreatDoor
set_option linter.unusedVariables false
set_option linter.unusedSimpArgs false
open Go.RowKit

theorem filter_take_succ {α : Type} (p : α → Bool) (L : List α) (k : Nat) (hk : k < L.length) : (L.take (k + 1)).filter p = if p L[k] then (L.take k).filter p ++ [L[k]] else (L.take k).filter p := by
  rw [List.take_succ_eq_append_getElem hk, List.filter_append]
  cases h : p L[k] <;> simp [h]
theorem list_set_take {α : Type} (dk : List α) (i : Nat) (x : α) (hi : i < dk.length) : (dk.set i x).take (i + 1) = dk.take i ++ [x] := by
  rw [List.take_succ_eq_append_getElem (by simpa using hi), List.take_set_of_le (Nat.le_refl _)]
  simp
set_option maxRecDepth 100000 in
set_option maxHeartbeats 4000000 in
theorem delete_users {w : World} {base : Nat} {v : Value} {xs : List LUser} (h : OwnL w base 25 3 LUser.cells v xs) (hbase : base ≤ w.heap.size) (hl : xs.length ≤ 1000000) (g : Nat) (p : LUser → Bool)
    (hp : ∀ (x : LUser) (W : World), Calls Tryz.prog g #[x.val] W fun e W' => e = .returned (.bool (p x)) ∧ Below W.heap.size W W') (eg : ∀ args w, (callFunc g args).run Tryz.prog w = .ok (.enter g args) w) :
    Calls Tryz.prog 131 #[v, .func (.func g) #[] #[]] w fun e w' => ∃ v', e = .returned v' ∧ OwnL w' base 25 3 LUser.cells v' (xs.filter fun u => !p u) ∧ Below base w w' := by
  obtain ⟨a, c, rfl, hac, _⟩ := h.form
  have hidx := indexFunc_User a xs.length c (fun k j => match j with | 0 => .string (xs.getD k default).kind | 1 => .string (xs.getD k default).id | _ => .string (xs.getD k default).rel) w (by omega)
    (fun k hlt => by
      rcases h.2 with ⟨hv, h0⟩ | ⟨g0, cap, cur, hv, _⟩
      · omega
      · injection hv with e1
        subst e1
        refine ⟨g0, 0, rfl, ?_, ?_, ?_⟩ <;> simp only [Nat.zero_add, getD_at hlt]
        · exact h.cellAt LUser.len hlt (j := 0) (by omega) rfl
        · exact h.cellAt LUser.len hlt (j := 1) (by omega) rfl
        · exact h.cellAt LUser.len hlt (j := 2) (by omega) rfl)
    g #[] (fun k => p (xs.getD k default)) (fun k hlt W hW => hp (xs.getD k default) W) eg
  have hff := find_first xs default p
  have HP := Lib.hid hp
  rcases hff with ⟨h1, h2⟩ | ⟨i, hi, h1, h2⟩
  · have hfl : (xs.filter fun u => !p u) = xs := by
      rw [List.filter_eq_self]
      intro x hx
      have := List.find?_eq_none.1 h2 x hx
      simpa using this
    rw [h1] at hidx
    rw [hfl]
    have HI := Lib.hid hidx; have H := Lib.hid h
    clear hidx h hfl h1 h2 hp
    go_enter Tryz.func131, Tryz.ntmps131
    go_wp2_with fail
    refine HI.out.mono ?_
    rintro e w1 ⟨rfl, hb⟩
    go_wp2
    go_ret
    exact ⟨_, rfl, H.out.below hb, hb.mono hbase⟩
  · have hpre : (xs.take (i + 1)).filter (fun u => !p u) = xs.take i := by
      obtain ⟨hb, i', hi', he, hno⟩ := List.find?_eq_some_iff_getElem.1 h2
      have hii : i' = i := by
        have e1 := firstP_some (p := fun j => p (xs.getD j default)) hi' (by rw [getD_at hi', he]; exact hb) (fun j hj => by rw [getD_at (by omega)]; simpa using hno j hj)
        rw [h1] at e1
        omega
      subst hii
      rw [filter_take_succ _ _ _ hi', he, hb]
      simp only [Bool.not_true, Bool.false_eq_true, if_false]
      rw [List.filter_eq_self]
      intro x hx
      obtain ⟨j, hj, rfl⟩ := List.mem_take_iff_getElem.1 hx
      have := hno j (by omega)
      simpa using this
    obtain ⟨g0, rfl⟩ : ∃ b, a = some ⟨b, 0, none⟩ := by
      rcases h.2 with ⟨hv, h0⟩ | ⟨g0, cap, cur, hv, _⟩
      · omega
      · injection hv with e1
        exact ⟨g0, e1⟩
    have hg0 := (OwnL.block h g0 rfl).1
    rw [h1] at hidx
    have HI := Lib.hid hidx; have H := Lib.hid h; have HPRE := Lib.hid hpre
    clear hidx h hpre h1 h2 hp
    go_enter Tryz.func131, Tryz.ntmps131
    go_wp2_with fail
    refine HI.out.mono ?_
    rintro e w1 ⟨rfl, hb⟩
    have H1 := Lib.hid (H.out.below hb)
    have hB1 := hb.mono hbase
    clear HI H hb
    go_wp2
    go_loopw [5, 6] (fun s5 s6 wr => ∃ (ii jj : Nat) (dk : List LUser), s5 = .int .i64 ii ∧ s6 = .int .i64 jj ∧ ii < jj ∧ jj ≤ xs.length ∧ dk.length = xs.length ∧ Aside (OwnL wr base 25 3 LUser.cells (.slice (some ⟨g0, 0, none⟩) xs.length c) dk) ∧ Below base w wr ∧ Aside (dk.take ii = (xs.take jj).filter fun u => !p u) ∧ Aside (∀ m, jj ≤ m → dk[m]? = xs[m]?))
      (fun _ s6 _ => xs.length - (intOf s6).toNat)
    case atStart => exact ⟨i, i + 1, xs, rfl, by go_num, by omega, by omega, rfl, ⟨H1.out⟩, hB1, ⟨HPRE.out.symm⟩, ⟨fun m hm => rfl⟩⟩
    case round =>
      obtain ⟨ii, jj, dk, rfl, rfl, hij, hj, hds, hO, hB, hT, hR⟩ := hrel
      have hsz := hB.size
      by_cases hlt : jj < xs.length
      · have c0 := hO.out.cellAt LUser.len (i := jj) (by omega) (j := 0) (by omega) (o := jj * 3) rfl
        have c1 := hO.out.cellAt LUser.len (i := jj) (by omega) (j := 1) (by omega) (o := jj * 3 + 1) rfl
        have c2 := hO.out.cellAt LUser.len (i := jj) (by omega) (j := 2) (by omega) (o := jj * 3 + 2) rfl
        have b0 := hO.out.cellAt LUser.len (i := ii) (by omega) (j := 0) (by omega) (o := ii * 3) rfl
        have b1 := hO.out.cellAt LUser.len (i := ii) (by omega) (j := 1) (by omega) (o := ii * 3 + 1) rfl
        have b2 := hO.out.cellAt LUser.len (i := ii) (by omega) (j := 2) (by omega) (o := ii * 3 + 2) rfl
        have hdx : dk[jj] = xs[jj] := by
          have := hR.out jj (Nat.le_refl _)
          rw [List.getElem?_eq_getElem (by omega), List.getElem?_eq_getElem hlt] at this
          exact Option.some.inj this
        have hstep := filter_take_succ (fun u => !p u) xs jj hlt
        rw [← hdx] at hstep
        simp only [LUser.cells, List.getElem_cons_zero, List.getElem_cons_succ, Nat.add_zero] at c0 c1 c2 b0 b1 b2
        generalize dk[jj] = x at *
        have hgl : g0 < wr.heap.size := (OwnL.block hO.out g0 rfl).2
        have hcall := HP.out x (wr.alloc (.cells #[.string x.kind, .string x.id, .string x.rel] 25))
        have hO1 := fun W (hW : Below wr.heap.size wr W) => hO.out.below hW
        have HO1 := Lib.hid hO1
        have HCELL := Lib.hid (And.intro b0 (And.intro b1 b2))
        unfold LUser.val at hcall
        generalize hpx : p x = px at *
        have HC := Lib.hid hcall; have HST := Lib.hid hstep
        clear hcall hstep hpx hdx hO1 b0 b1 b2
        cases px with
        | true =>
          simp only [Bool.not_true, Bool.false_eq_true, if_false] at HST
          have hinv : dk.take ii = (xs.take (jj + 1)).filter fun u => !p u := by rw [hT.out, HST.out]
          have HINV := Lib.hid hinv
          clear hinv
          go_wp2_with fail
          go_at_fn g
          refine HC.out.mono ?_
          rintro e w2 ⟨rfl, hb2⟩
          have hr2 := below_past ((Below.refl _ wr).alloc (Nat.le_refl _) (.cells #[.string x.kind, .string x.id, .string x.rel] 25)) hb2
          have HO2 := Lib.hid (HO1.out w2 hr2)
          have hB2 := hB.trans (hr2.mono (Nat.le_trans hbase hsz))
          clear hb2 hr2
          go_wp2
          refine ⟨⟨.int .i64 (ii : Nat), .int .i64 ((jj : Int) + 1), _, _, _, _, _, _, _, _, _, _, _, _, _, _, _, _, _, _, _, _, _, ⟨ii, jj + 1, dk, rfl, by go_num, by omega, by omega, by simpa using hds, ⟨HO2.out⟩, hB2, ⟨HINV.out⟩, ⟨fun m hm => hR.out m (by omega)⟩⟩, rfl⟩, ?_⟩
          simp [intOf]
          omega
        | false =>
          simp only [Bool.not_false, if_true] at HST
          have hinv : (dk.set ii x).take (ii + 1) = (xs.take (jj + 1)).filter fun u => !p u := by rw [list_set_take _ _ _ (by omega), hT.out, HST.out]
          have HINV := Lib.hid hinv
          have hrest : ∀ m, jj + 1 ≤ m → (dk.set ii x)[m]? = xs[m]? := fun m hm => by
            rw [List.getElem?_set_ne (by omega)]
            exact hR.out m (by omega)
          have HREST := Lib.hid hrest
          clear hinv hrest
          go_wp2_with fail
          go_at_fn g
          refine HC.out.mono ?_
          rintro e w2 ⟨rfl, hb2⟩
          have hr2 := below_past ((Below.refl _ wr).alloc (Nat.le_refl _) (.cells #[.string x.kind, .string x.id, .string x.rel] 25)) hb2
          have HO2 := Lib.hid (HO1.out w2 hr2)
          have hB2 := hB.trans (hr2.mono (Nat.le_trans hbase hsz))
          have v0 : w2.cell? ⟨wr.heap.size, 0, none⟩ = some (.string x.kind) := (hb2.cell (p := ⟨wr.heap.size, 0, none⟩) (by simp)).trans (by go_simp)
          have v1 : w2.cell? ⟨wr.heap.size, 1, none⟩ = some (.string x.id) := (hb2.cell (p := ⟨wr.heap.size, 1, none⟩) (by simp)).trans (by go_simp)
          have v2 : w2.cell? ⟨wr.heap.size, 2, none⟩ = some (.string x.rel) := (hb2.cell (p := ⟨wr.heap.size, 2, none⟩) (by simp)).trans (by go_simp)
          have b0 := (hr2.cell (p := ⟨g0, ii * 3, none⟩) hgl).trans HCELL.out.1
          have b1 := (hr2.cell (p := ⟨g0, ii * 3 + 1, none⟩) hgl).trans HCELL.out.2.1
          have b2 := (hr2.cell (p := ⟨g0, ii * 3 + 2, none⟩) hgl).trans HCELL.out.2.2
          have hfz := fun o => HO2.out.frozenAt o
          clear hb2 hr2 c0 c1 c2
          go_wp2
          have hO3 := HO2.out.setRow LUser.len (i := ii) (by omega) x rfl
          have hB3 := hB2.trans (below_setCells hg0 x.cells (ii * 3) w2 (by have := hB2.size; omega))
          refine ⟨⟨.int .i64 ((ii : Int) + 1), .int .i64 ((jj : Int) + 1), _, _, _, _, _, _, _, _, _, _, _, _, _, _, _, _, _, _, _, _, _, ⟨ii + 1, jj + 1, dk.set ii x, by go_num, by go_num, by omega, by omega, by simpa using hds, ⟨hO3⟩, hB3, ⟨HINV.out⟩, ⟨HREST.out⟩⟩, rfl⟩, ?_⟩
          simp [intOf]
          omega
      · have hend : jj = xs.length := by omega
        have hzz : ∀ w, (zeroValue 25).run Tryz.prog w = .ok (.agg #[.string ⟨#[]⟩, .string ⟨#[]⟩, .string ⟨#[]⟩]) w := fun w => by kernel_rfl
        have hc1 : ∀ j, j < (xs.length - ii) * 3 → (wr.cell? ⟨g0, ii * 3 + j, none⟩).isSome = true := fun j hj => by
          have hd := Nat.div_add_mod j 3
          have hm := Nat.mod_lt j (show 0 < 3 by omega)
          rw [hO.out.cellAt LUser.len (i := ii + j / 3) (by omega) (j := j % 3) hm (o := ii * 3 + j) (by omega)]
          rfl
        have hcl : ∀ ty, (Builtin.clear_ #[29] ty #[.slice (some ⟨g0, ii * 3, none⟩) (xs.length - ii) (c - ii)]).run Tryz.prog wr = .ok (.tuple #[]) (wr.setCells g0 (ii * 3) (Builtin.zeroCells (#[.string ⟨#[]⟩, .string ⟨#[]⟩, .string ⟨#[]⟩] : Array Value) (xs.length - ii)).toList) :=
          fun ty => run_clear_rows wr _ _ ty _ Tryz.underlying29 hzz (fun i _ => by
            have : i % 3 < 3 := Nat.mod_lt _ (by omega)
            show ((#[.string ⟨#[]⟩, .string ⟨#[]⟩, .string ⟨#[]⟩] : Array Value)[i % 3]!).oneCell' = true
            rw [getElem!_pos _ _ (by simpa using this)]
            generalize i % 3 = q at *
            match q with
            | 0 => rfl
            | 1 => rfl
            | 2 => rfl) g0 (ii * 3) _ _ (by omega) hc1 (fun j => hO.out.frozenAt j)
        have hfin : OwnL (wr.setCells g0 (ii * 3) (Builtin.zeroCells (#[.string ⟨#[]⟩, .string ⟨#[]⟩, .string ⟨#[]⟩] : Array Value) (xs.length - ii)).toList) base 25 3 LUser.cells (.slice (some ⟨g0, 0, none⟩) ii c) (xs.filter fun u => !p u) := by
          have e : (xs.filter fun u => !p u) = dk.take ii := by rw [hT.out, hend, List.take_length]
          rw [e]
          have hq := hO.out.cut LUser.len (m := ii) (by omega)
          refine hq.behind _ (by simp; omega) ?_
          have h3 : (Builtin.zeroCells (#[.string ⟨#[]⟩, .string ⟨#[]⟩, .string ⟨#[]⟩] : Array Value) (xs.length - ii)).toList.length = (xs.length - ii) * 3 := zeroCells_length (.agg #[.string ⟨#[]⟩, .string ⟨#[]⟩, .string ⟨#[]⟩]) (xs.length - ii)
          rw [h3]
          have := hO.out.size_le.1
          omega
        have hB1' := hB.trans (below_setCells hg0 (Builtin.zeroCells (#[.string ⟨#[]⟩, .string ⟨#[]⟩, .string ⟨#[]⟩] : Array Value) (xs.length - ii)).toList (ii * 3) wr (by have := hB.size; omega))
        have HF := Lib.hid hfin
        have hsl := hO.out.size_le
        clear hfin hc1 hzz hR hO hT
        go_wp2
        go_ret
        exact ⟨_, rfl, HF.out, hB1'⟩
end Go.Proofs.YtnfkjodiielidaaGreatDoor

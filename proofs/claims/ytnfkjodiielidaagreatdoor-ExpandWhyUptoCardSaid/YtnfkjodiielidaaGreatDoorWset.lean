/- The users of a tree, as a set. -/
import Derived.Test.YtnfkjodiielidaaGreatDoorMapdel
import Derived.Test.YtnfkjodiielidaaGreatDoorPtree
import Derived.Test.YtnfkjodiielidaaGreatDoorWcmp
namespace Go.Proofs.YtnfkjodiielidaaGreatDoor
set_option linter.unusedVariables false
set_option linter.unusedSimpArgs false
open Go.RowKit

/-- What set makes of a tree. -/
def SetOk (t : LTree) : Prop := ∀ (A : Nat → Prop) (w : World) (us ps : Value), RepD A w (.slice 3 (t.users.map LUser.d)) us → RepD A w (.slice 3 (t.parts.map LTree.d)) ps →
    Calls Tryz.prog 60 #[.agg #[.string t.op, us, ps]] w fun e w' => ∃ (mb : Nat) (S : List LUser), e = .returned (.map (some mb)) ∧ w.heap.size ≤ mb ∧ USetAt w' mb S ∧ (∀ u, u ∈ S ↔ t.inB u = true) ∧ Below w.heap.size w w'
theorem str_yes {a b : ByteArray} (h : a = b) : (a.toList == b.toList) = true ∧ (a.toList = b.toList) = True := by subst h; simp
theorem str_no {a b : ByteArray} (h : a ≠ b) : (a.toList == b.toList) = false ∧ (a.toList = b.toList) = False := by
  have : a.toList ≠ b.toList := fun e => h (bytes_toList_inj e)
  simp [this]
theorem sOr_list : sOr.toList = [111, 114] := by decide +kernel
theorem sAnd_list : sAnd.toList = [97, 110, 100] := by decide +kernel
theorem sBut_list : sBut.toList = [98, 117, 116] := by decide +kernel
/-- A part's cells, in every world that has grown out of the first. -/
theorem tree_cells {A : Nat → Prop} {w : World} {ps : List LTree} {v : Value} (h : RepD A w (.slice 3 (ps.map LTree.d)) v) : ∃ a c, v = .slice a ps.length c ∧ ps.length ≤ 140737488355328 ∧ ∀ (W : World), Below w.heap.size w W → ∀ k (hk : k < ps.length), ∃ b off ua uc pa pc, a = some ⟨b, off, none⟩ ∧
    W.cell? ⟨b, off + k * 3, none⟩ = some (.string ps[k].op) ∧ W.cell? ⟨b, off + k * 3 + 1, none⟩ = some (.slice ua ps[k].users.length uc) ∧ W.cell? ⟨b, off + k * 3 + 2, none⟩ = some (.slice pa ps[k].parts.length pc) ∧
    RepD A W (.slice 3 (ps[k].users.map LUser.d)) (.slice ua ps[k].users.length uc) ∧ RepD A W (.slice 3 (ps[k].parts.map LTree.d)) (.slice pa ps[k].parts.length pc) := by
  obtain ⟨a, c, us, qs, rfl, _, hl, hk⟩ := h.trees
  refine ⟨a, c, rfl, hl, fun W hW k hlt => ?_⟩
  obtain ⟨b, off, ha, _, c0, c1, c2, r1, r2⟩ := hk k hlt
  have hbl : b < w.heap.size := World.block_lt_of_cell? w _ c0
  obtain ⟨ua, uc, e1⟩ := r1.formM
  obtain ⟨pa, pc, e2⟩ := r2.formM
  rw [e1] at c1 r1
  rw [e2] at c2 r2
  have hc : ∀ o, W.cell? ⟨b, o, none⟩ = w.cell? ⟨b, o, none⟩ := fun o => hW.cell (p := ⟨b, o, none⟩) hbl
  exact ⟨b, off, ua, uc, pa, pc, ha, (hc _).trans c0, (hc _).trans c1, (hc _).trans c2, r1.old hW, r2.old hW⟩
section
variable {A : Nat → Prop} {w : World} {t : LTree} {ua pa : Option Addr} {uc pc : Nat}
set_option maxRecDepth 100000 in
set_option maxHeartbeats 8000000 in
theorem set_or (ih : ∀ x, x ∈ t.parts → SetOk x) (c1 : t.op = sOr) (hu : RepD A w (.slice 3 (t.users.map LUser.d)) (.slice ua t.users.length uc)) (hp : RepD A w (.slice 3 (t.parts.map LTree.d)) (.slice pa t.parts.length pc)) :
    Calls Tryz.prog 60 #[.agg #[.string t.op, .slice ua t.users.length uc, .slice pa t.parts.length pc]] w fun e w' => ∃ (mb : Nat) (S : List LUser), e = .returned (.map (some mb)) ∧ w.heap.size ≤ mb ∧ USetAt w' mb S ∧ (∀ u, u ∈ S ↔ t.inB u = true) ∧ Below w.heap.size w w' := by
  have hin : ∀ u, t.inB u = true ↔ u ∈ t.users ∨ ∃ x, x ∈ t.parts ∧ x.inB u = true := fun u => by
    rw [LTree.inB_eq, LTree.in1, if_pos c1]
    simp only [Bool.or_eq_true, decide_eq_true_eq, List.any_map, List.any_eq_true, Function.comp_def, id]
  obtain ⟨a1, b1⟩ := str_yes c1
  rw [sOr_list] at a1 b1
  obtain ⟨_, _, eu, _, hul, huc⟩ := hu.users
  obtain ⟨_, _, ep, hpl, hpc⟩ := tree_cells hp
  injection eu with eu1 _ eu3
  injection ep with ep1 _ ep3
  subst eu1 eu3 ep1 ep3
  have hw0 : Below w.heap.size w ((w.alloc (.cells #[.string t.op, .slice ua t.users.length uc, .slice pa t.parts.length pc] 32)).alloc (.map #[] 0)) := ((Below.refl _ w).alloc (Nat.le_refl _) _).alloc (by simp) _
  have hm0 : USetAt ((w.alloc (.cells #[.string t.op, .slice ua t.users.length uc, .slice pa t.parts.length pc] 32)).alloc (.map #[] 0)) (w.heap.size + 1) [] := by
    have := MapAt.made (α := LUser) (β := Unit) (w.alloc (.cells #[.string t.op, .slice ua t.users.length uc, .slice pa t.parts.length pc] 32)) LUser.val oneV
    simpa [USetAt, unitL] using this
  have hbx0 : ((w.alloc (.cells #[.string t.op, .slice ua t.users.length uc, .slice pa t.parts.length pc] 32)).alloc (.map #[] 0)).heap[w.heap.size]? = some (.cells #[.string t.op, .slice ua t.users.length uc, .slice pa t.parts.length pc] 32) := heap_alloc2 rfl
  have HW0 := Lib.hid hw0; have HM0 := Lib.hid hm0; have HIN := Lib.hid hin; have HUC := Lib.hid huc; have HPC := Lib.hid hpc; have HIH := Lib.hid ih; have HBX0 := Lib.hid hbx0
  clear hw0 hm0 hin huc hpc ih hu hp c1 hbx0
  have hmm := @run_makeMap Tryz.prog
  go_enter Tryz.func60, Tryz.ntmps60
  go_wp2
  go_loopw [24] (fun i wr => ∃ (k : Nat) (S : List LUser), k ≤ t.users.length ∧ i = .int .i64 k ∧ Aside (USetAt wr (w.heap.size + 1) S) ∧ Aside (∀ u, u ∈ S ↔ u ∈ t.users.take k) ∧ Aside (Below w.heap.size w wr) ∧ Aside (wr.heap[w.heap.size]? = some (.cells #[.string t.op, .slice ua t.users.length uc, .slice pa t.parts.length pc] 32)))
    (fun i _ => t.users.length - (intOf i).toNat)
  case atStart => exact ⟨0, [], by omega, rfl, ⟨HM0.out⟩, ⟨by simp⟩, ⟨HW0.out⟩, ⟨HBX0.out⟩⟩
  case round =>
    obtain ⟨k, S, hk, rfl, hS, hE, hB, hX⟩ := hrel
    have hsz := hB.out.size
    by_cases hlt : k < t.users.length
    · obtain ⟨b, off, rfl, _, e0, e1, e2⟩ := HUC.out k hlt
      have hbl : b < w.heap.size := World.block_lt_of_cell? w _ e0
      rw [← hB.out.cell (by exact hbl)] at e0 e1 e2
      have hx : t.users.take (k + 1) = t.users.take k ++ [t.users[k]] := List.take_succ_eq_append_getElem hlt
      generalize t.users[k] = x at *
      have hba : Below wr.heap.size wr (wr.alloc (.cells #[.string x.kind, .string x.id, .string x.rel] 25)) := (Below.refl _ wr).alloc (Nat.le_refl _) _
      obtain ⟨o, hup, hS2⟩ := run_put_user (hS.out.below hba) x
      have hE2 : ∀ u, u ∈ (if x ∈ S then S else S ++ [x]) ↔ u ∈ t.users.take (k + 1) := fun u => by rw [mem_put, hx, List.mem_append, hE.out]; simp
      have hF := setB_fr (wr.alloc (.cells #[.string x.kind, .string x.id, .string x.rel] 25)) (w.heap.size + 1) o
      have hB2 : Below w.heap.size w (setB (wr.alloc (.cells #[.string x.kind, .string x.id, .string x.rel] 25)) (w.heap.size + 1) o) := (hB.out.trans (hba.mono hsz)).trans (hF.below (by simp; omega) fun i hi e => by omega)
      have hlt0 := (Array.getElem?_eq_some_iff.1 hX.out).1
      have hX2 := (hF.block w.heap.size (by simp; omega) (by omega)).trans ((hba.block _ hlt0).trans hX.out)
      have HS2 := Lib.hid hS2; have HE2 := Lib.hid hE2; have HB2 := Lib.hid hB2; have HX2 := Lib.hid hX2
      clear hS hE hB hX hS2 hE2 hB2 hX2 hF hba hx hlt0
      go_wp2
      first
        | exact ⟨⟨k + 1, _, by omega, by go_num, ⟨HS2.out⟩, ⟨HE2.out⟩, ⟨HB2.out⟩, ⟨HX2.out⟩⟩, by simp [intOf] <;> omega⟩
        | (go_roundw
           case rel => exact ⟨k + 1, _, by omega, by go_num, ⟨HS2.out⟩, ⟨HE2.out⟩, ⟨HB2.out⟩, ⟨HX2.out⟩⟩
           case measure => simp [intOf]; omega)
    · have hkn : t.users.take k = t.users := List.take_of_length_le (by omega)
      have hE0 : ∀ u, u ∈ S ↔ u ∈ t.users ∨ ∃ x, x ∈ t.parts.take 0 ∧ x.inB u = true := fun u => by rw [hE.out, hkn]; simp
      have hx2 : wr.cell? ⟨w.heap.size, 2, none⟩ = some (.slice pa t.parts.length pc) := by have := hX.out; simp [World.cell?, this]
      have HE0 := Lib.hid hE0
      have hS1 := hS; have hB1 := hB
      clear hE0 hkn hE hS hB hX
      go_wp2
      obtain ⟨wo, rfl⟩ : ∃ x, x = wr := ⟨wr, rfl⟩
      go_loopw [34] (fun i wr => ∃ (k : Nat) (S : List LUser), k ≤ t.parts.length ∧ i = .int .i64 k ∧ Aside (USetAt wr (w.heap.size + 1) S) ∧ Aside (∀ u, u ∈ S ↔ u ∈ t.users ∨ ∃ x, x ∈ t.parts.take k ∧ x.inB u = true) ∧ Aside (Below w.heap.size w wr))
        (fun i _ => t.parts.length - (intOf i).toNat)
      case atStart => exact ⟨0, S, by omega, rfl, ⟨hS1.out⟩, ⟨HE0.out⟩, ⟨hB1.out⟩⟩
      case round =>
        obtain ⟨k, S, hk, rfl, hS, hE, hB⟩ := hrel
        have hsz := hB.out.size
        have hml := hS.out.lt
        by_cases hlt : k < t.parts.length
        · obtain ⟨b, off, xa, xc, ya, yc, rfl, e0, e1, e2, r1, r2⟩ := HPC.out wr hB.out k hlt
          have hx : t.parts.take (k + 1) = t.parts.take k ++ [t.parts[k]] := List.take_succ_eq_append_getElem hlt
          have hok := HIH.out t.parts[k] (List.getElem_mem hlt)
          generalize t.parts[k] = x at *
          have hba : Below wr.heap.size wr (wr.alloc (.cells #[.string x.op, .slice xa x.users.length xc, .slice ya x.parts.length yc] 32)) := (Below.refl _ wr).alloc (Nat.le_refl _) _
          have hcall := hok A _ _ _ (r1.old hba) (r2.old hba)
          have HC := Lib.hid hcall; have HBA := Lib.hid hba; have HX := Lib.hid hx
          clear hcall r1 r2 hba hx hok
          go_wp2_with fail
          refine HC.out.mono ?_
          rintro e w2 ⟨mb, T, rfl, hmb, hT, hmem, hb2⟩
          have hb3 := below_past HBA.out hb2
          have hS2 := hS.out.below hb3
          have hcp := copy_users hS2 hT (by have := HBA.out.size; omega)
          have HCP := Lib.hid hcp; have HB3 := Lib.hid hb3; have HMEM := Lib.hid hmem
          clear hcp hb3 hmem hT hS2 hb2 HC hmb
          go_wp2_with fail
          refine HCP.out.mono ?_
          rintro e w3 ⟨rfl, ⟨D', hD, hDm⟩, hF⟩
          have hB2 : Below w.heap.size w w3 := (hB.out.trans (HB3.out.mono hsz)).trans (hF.below (by have := HB3.out.size; omega) fun i hi e => by omega)
          have hE2 : ∀ u, u ∈ D' ↔ u ∈ t.users ∨ ∃ x, x ∈ t.parts.take (k + 1) ∧ x.inB u = true := fun u => by
            rw [hDm, hE.out, HX.out, HMEM.out]
            constructor
            · rintro ((h | ⟨y, hy, h⟩) | h)
              · exact .inl h
              · exact .inr ⟨y, by simp [hy], h⟩
              · exact .inr ⟨x, by simp, h⟩
            · rintro (h | ⟨y, hy, h⟩)
              · exact .inl (.inl h)
              · rcases List.mem_append.1 hy with hy | hy
                · exact .inl (.inr ⟨y, hy, h⟩)
                · obtain rfl : y = x := by simpa using hy
                  exact .inr h
          have HD := Lib.hid hD; have HB2 := Lib.hid hB2; have HE2 := Lib.hid hE2
          clear hD hB2 hE2 hDm hF hS hE hB HX HMEM HB3
          go_wp2
          first
            | exact ⟨⟨k + 1, _, by omega, by go_num, ⟨HD.out⟩, ⟨HE2.out⟩, ⟨HB2.out⟩⟩, by simp [intOf] <;> omega⟩
            | (go_roundw
               case rel => exact ⟨k + 1, _, by omega, by go_num, ⟨HD.out⟩, ⟨HE2.out⟩, ⟨HB2.out⟩⟩
               case measure => simp [intOf]; omega)
        · have hkn : t.parts.take k = t.parts := List.take_of_length_le (by omega)
          have hfin : ∀ u, u ∈ S ↔ t.inB u = true := fun u => by rw [hE.out, HIN.out, hkn]
          have HF := Lib.hid hfin
          clear hfin hkn hE
          go_wp2
          go_ret
          exact ⟨_, S, rfl, by omega, hS.out, HF.out, hB.out⟩
set_option maxRecDepth 100000 in
set_option maxHeartbeats 8000000 in
theorem set1 (x : LUser) (T : List LUser) (sb ms : Nat) (W : World) (hc : W.cell? ⟨sb, 0, none⟩ = some (.map (some ms))) (hT : USetAt W ms T) :
    Calls Tryz.prog 104 #[.agg #[.string x.kind, .string x.id, .string x.rel], .int .i64 1, .pointer (some ⟨sb, 0, none⟩)] W fun e W' => e = .returned (.bool (decide (x ∉ T))) ∧ Below W.heap.size W W' := by
  have hlt := World.block_lt_of_cell? _ _ hc
  have hB0 : Below W.heap.size W (W.alloc (.cells #[.string x.kind, .string x.id, .string x.rel] 25)) := (Below.refl _ W).alloc (Nat.le_refl _) _
  have hl := run_look_user (hT.below hB0) x.kind x.id x.rel
  have HB := Lib.hid hB0
  clear hT hB0
  by_cases hm : x ∈ T
  · have e : decide (x ∉ T) = false := by simp [hm]
    rw [e]
    simp only [show (⟨x.kind, x.id, x.rel⟩ : LUser) ∈ T from hm, if_true] at hl
    clear e hm
    go_enter Tryz.func104, Tryz.ntmps104
    go_wp2
    go_ret
    exact ⟨rfl, HB.out⟩
  · have e : decide (x ∉ T) = true := by simp [hm]
    rw [e]
    simp only [show ¬ (⟨x.kind, x.id, x.rel⟩ : LUser) ∈ T from hm, if_false] at hl
    clear e hm
    go_enter Tryz.func104, Tryz.ntmps104
    go_wp2
    go_ret
    exact ⟨rfl, HB.out⟩
set_option maxRecDepth 100000 in
set_option maxHeartbeats 8000000 in
theorem set2 (x : LUser) (T : List LUser) (sb ms : Nat) (W : World) (hc : W.cell? ⟨sb, 0, none⟩ = some (.map (some ms))) (hT : USetAt W ms T) :
    Calls Tryz.prog 105 #[.agg #[.string x.kind, .string x.id, .string x.rel], .int .i64 1, .pointer (some ⟨sb, 0, none⟩)] W fun e W' => e = .returned (.bool (decide (x ∈ T))) ∧ Below W.heap.size W W' := by
  have hlt := World.block_lt_of_cell? _ _ hc
  have hB0 : Below W.heap.size W (W.alloc (.cells #[.string x.kind, .string x.id, .string x.rel] 25)) := (Below.refl _ W).alloc (Nat.le_refl _) _
  have hl := run_look_user (hT.below hB0) x.kind x.id x.rel
  have HB := Lib.hid hB0
  clear hT hB0
  by_cases hm : x ∈ T
  · rw [decide_eq_true hm]
    simp only [show (⟨x.kind, x.id, x.rel⟩ : LUser) ∈ T from hm, if_true] at hl
    clear hm
    go_enter Tryz.func105, Tryz.ntmps105
    go_wp2
    go_ret
    exact ⟨rfl, HB.out⟩
  · rw [decide_eq_false hm]
    simp only [show ¬ (⟨x.kind, x.id, x.rel⟩ : LUser) ∈ T from hm, if_false] at hl
    clear hm
    go_enter Tryz.func105, Tryz.ntmps105
    go_wp2
    go_ret
    exact ⟨rfl, HB.out⟩
set_option maxRecDepth 100000 in
set_option maxHeartbeats 8000000 in
theorem set_none (c1 : t.op ≠ sOr) (c2 : t.op = sAnd → t.parts.length = 0) (c3 : t.op = sBut → t.parts.length ≠ 2) (hu : RepD A w (.slice 3 (t.users.map LUser.d)) (.slice ua t.users.length uc)) (hp : RepD A w (.slice 3 (t.parts.map LTree.d)) (.slice pa t.parts.length pc)) :
    Calls Tryz.prog 60 #[.agg #[.string t.op, .slice ua t.users.length uc, .slice pa t.parts.length pc]] w fun e w' => ∃ (mb : Nat) (S : List LUser), e = .returned (.map (some mb)) ∧ w.heap.size ≤ mb ∧ USetAt w' mb S ∧ (∀ u, u ∈ S ↔ t.inB u = true) ∧ Below w.heap.size w w' := by
  have hno : ∀ u, u ∈ ([] : List LUser) ↔ t.inB u = true := fun u => by
    rw [LTree.inB_eq, LTree.in1, if_neg c1]
    split
    · rename_i h
      have := c2 h
      have hz : t.parts = [] := List.eq_nil_of_length_eq_zero this
      simp [hz]
    · split
      · rename_i h
        have := c3 h
        simp [this]
      · simp
  have hw0 : Below w.heap.size w ((w.alloc (.cells #[.string t.op, .slice ua t.users.length uc, .slice pa t.parts.length pc] 32)).alloc (.map #[] 0)) := ((Below.refl _ w).alloc (Nat.le_refl _) _).alloc (by simp) _
  have hm0 : USetAt ((w.alloc (.cells #[.string t.op, .slice ua t.users.length uc, .slice pa t.parts.length pc] 32)).alloc (.map #[] 0)) (w.heap.size + 1) [] := by
    have := MapAt.made (α := LUser) (β := Unit) (w.alloc (.cells #[.string t.op, .slice ua t.users.length uc, .slice pa t.parts.length pc] 32)) LUser.val oneV
    simpa [USetAt, unitL] using this
  have hbx0 : ((w.alloc (.cells #[.string t.op, .slice ua t.users.length uc, .slice pa t.parts.length pc] 32)).alloc (.map #[] 0)).heap[w.heap.size]? = some (.cells #[.string t.op, .slice ua t.users.length uc, .slice pa t.parts.length pc] 32) := heap_alloc2 rfl
  have hx0 : ∀ j, ((w.alloc (.cells #[.string t.op, .slice ua t.users.length uc, .slice pa t.parts.length pc] 32)).alloc (.map #[] 0)).cell? ⟨w.heap.size, j, none⟩ = (#[.string t.op, .slice ua t.users.length uc, .slice pa t.parts.length pc] : Array Value)[j]? := fun j => by simp [World.cell?, hbx0]
  obtain ⟨a1, b1⟩ := str_no c1
  rw [sOr_list] at a1 b1
  have HW0 := Lib.hid hw0; have HM0 := Lib.hid hm0; have HNO := Lib.hid hno
  clear hw0 hm0 hno hu hp c1 hbx0 hx0
  have hmm := @run_makeMap Tryz.prog
  by_cases c4 : t.op = sAnd
  · have hz := c2 c4
    obtain ⟨a2, b2⟩ := str_yes c4
    rw [sAnd_list] at a2 b2
    have c5 : t.op ≠ sBut := by rw [c4]; decide +kernel
    obtain ⟨a3, b3⟩ := str_no c5
    rw [sBut_list] at a3 b3
    clear c2 c3 c4 c5
    rw [hz] at HW0 HM0 ⊢
    go_enter Tryz.func60, Tryz.ntmps60
    go_wp2
    go_ret
    exact ⟨_, [], rfl, by omega, HM0.out, HNO.out, HW0.out⟩
  · obtain ⟨a2, b2⟩ := str_no c4
    rw [sAnd_list] at a2 b2
    by_cases c5 : t.op = sBut
    · have hz := c3 c5
      have hz2 : (t.parts.length : Int) ≠ 2 := by omega
      have hz3 : decide ((t.parts.length : Int) = 2) = false := by simp; omega
      obtain ⟨a3, b3⟩ := str_yes c5
      rw [sBut_list] at a3 b3
      clear c2 c3 c4 c5
      go_enter Tryz.func60, Tryz.ntmps60
      go_wp2
      go_ret
      exact ⟨_, [], rfl, by omega, HM0.out, HNO.out, HW0.out⟩
    · obtain ⟨a3, b3⟩ := str_no c5
      rw [sBut_list] at a3 b3
      clear c2 c3 c4 c5
      go_enter Tryz.func60, Tryz.ntmps60
      go_wp2
      go_ret
      exact ⟨_, [], rfl, by omega, HM0.out, HNO.out, HW0.out⟩
set_option maxRecDepth 100000 in
set_option maxHeartbeats 8000000 in
theorem set_but (ih : ∀ x, x ∈ t.parts → SetOk x) (c1 : t.op = sBut) (x y : LTree) (c2 : t.parts = [x, y]) (hu : RepD A w (.slice 3 (t.users.map LUser.d)) (.slice ua t.users.length uc)) (hp : RepD A w (.slice 3 (t.parts.map LTree.d)) (.slice pa t.parts.length pc)) :
    Calls Tryz.prog 60 #[.agg #[.string t.op, .slice ua t.users.length uc, .slice pa t.parts.length pc]] w fun e w' => ∃ (mb : Nat) (S : List LUser), e = .returned (.map (some mb)) ∧ w.heap.size ≤ mb ∧ USetAt w' mb S ∧ (∀ u, u ∈ S ↔ t.inB u = true) ∧ Below w.heap.size w w' := by
  have hin : ∀ u, t.inB u = true ↔ x.inB u = true ∧ y.inB u = false := fun u => by
    rw [LTree.inB_eq, LTree.in1, if_neg (by rw [c1]; decide +kernel), if_neg (by rw [c1]; decide +kernel), if_pos c1, c2]
    simp
  have c3 : t.op ≠ sOr := by rw [c1]; decide +kernel
  have c4 : t.op ≠ sAnd := by rw [c1]; decide +kernel
  obtain ⟨a1, b1⟩ := str_no c3
  obtain ⟨a2, b2⟩ := str_no c4
  obtain ⟨a3, b3⟩ := str_yes c1
  rw [sOr_list] at a1 b1
  rw [sAnd_list] at a2 b2
  rw [sBut_list] at a3 b3
  obtain ⟨_, _, ep, hpl, hpc⟩ := tree_cells hp
  injection ep with ep1 _ ep3
  subst ep1 ep3
  have hix := ih x (by simp [c2])
  have hiy := ih y (by simp [c2])
  have hw0 : Below w.heap.size w ((w.alloc (.cells #[.string t.op, .slice ua t.users.length uc, .slice pa t.parts.length pc] 32)).alloc (.map #[] 0)) := ((Below.refl _ w).alloc (Nat.le_refl _) _).alloc (by simp) _
  have hm0 : USetAt ((w.alloc (.cells #[.string t.op, .slice ua t.users.length uc, .slice pa t.parts.length pc] 32)).alloc (.map #[] 0)) (w.heap.size + 1) [] := by
    have := MapAt.made (α := LUser) (β := Unit) (w.alloc (.cells #[.string t.op, .slice ua t.users.length uc, .slice pa t.parts.length pc] 32)) LUser.val oneV
    simpa [USetAt, unitL] using this
  have hbx0 : ((w.alloc (.cells #[.string t.op, .slice ua t.users.length uc, .slice pa t.parts.length pc] 32)).alloc (.map #[] 0)).heap[w.heap.size]? = some (.cells #[.string t.op, .slice ua t.users.length uc, .slice pa t.parts.length pc] 32) := heap_alloc2 rfl
  rw [c2] at hpc hw0 hm0 hbx0 ⊢
  simp only [List.length_cons, List.length_nil, Nat.zero_add, Nat.reduceAdd] at hpc hw0 hm0 hbx0 ⊢
  have HW0 := Lib.hid hw0; have HM0 := Lib.hid hm0; have HIN := Lib.hid hin; have HPC := Lib.hid hpc; have HIX := Lib.hid hix; have HIY := Lib.hid hiy; have HBX0 := Lib.hid hbx0
  clear hu hp c1 c2 c3 c4 hin hix hiy ih hpl
  have hmm := @run_makeMap Tryz.prog
  obtain ⟨b, off, xa, xc, ya, yc, rfl, e0, e1, e2, r1, r2⟩ := hpc _ hw0 0 (by omega)
  have hcall := HIX.out A _ _ _ r1 r2
  have HC := Lib.hid hcall
  have hbl := World.block_lt_of_cell? _ _ e0
  simp only [Nat.zero_mul, Nat.add_zero, List.getElem_cons_zero] at e0 e1 e2
  clear hcall r1 r2 hpc hw0 hm0 hbx0
  go_enter Tryz.func60, Tryz.ntmps60
  go_wp2_with fail
  refine HC.out.mono ?_
  rintro e w1 ⟨m1, S1, rfl, hm1, hS1, hmem1, hb1⟩
  have hB1 := HW0.out.trans (hb1.mono HW0.out.size)
  obtain ⟨b', off', xa', xc', ya', yc', hbb, e0', e1', e2', r1', r2'⟩ := HPC.out _ hB1 1 (by omega)
  injection hbb with hbb
  injection hbb with hbb1 hbb2
  subst hbb1 hbb2
  have hcall := HIY.out A _ _ _ r1' r2'
  have HC2 := Lib.hid hcall
  simp only [Nat.one_mul, List.getElem_cons_succ, List.getElem_cons_zero] at e0' e1' e2'
  have hlt0 := (Array.getElem?_eq_some_iff.1 HBX0.out).1
  have hbx1 := (hb1.block _ hlt0).trans HBX0.out
  have x0 : w1.cell? ⟨w.heap.size, 0, none⟩ = some (.string t.op) := by simp [World.cell?, hbx1]
  have x2 : w1.cell? ⟨w.heap.size, 2, none⟩ = some (.slice (some ⟨b, off, none⟩) 2 pc) := by simp [World.cell?, hbx1]
  have hz1 := hb1.size
  have HB1 := Lib.hid hB1; have HS1 := Lib.hid hS1; have HME1 := Lib.hid hmem1
  clear hcall r1' r2' HC hB1 hS1 hmem1 hb1 hbx1 HIX e0 e1 e2
  go_wp2_with fail
  refine HC2.out.mono ?_
  rintro e w2 ⟨m2, S2, rfl, hm2, hS2, hmem2, hb2⟩
  have hba : Below w2.heap.size w2 (w2.alloc (.cells #[.map (some m2)] 105)) := (Below.refl _ w2).alloc (Nat.le_refl _) _
  have hbx : (w2.alloc (.cells #[.map (some m2)] 105)).heap[w2.heap.size]? = some (.cells #[.map (some m2)] 105) := heap_alloc_at rfl
  have hb3 := below_past hb2 hba
  have hl1 := HS1.out.lt
  have hl2 := hS2.lt
  have hstr := strike_users (HS1.out.below hb3) 105 #[.pointer (some ⟨w2.heap.size, 0, none⟩)] (fun u => decide (u ∈ S2)) (enters_of Tryz.func105 (by kernel_rfl) rfl) (fun z W hW => by
    have hbz := (hW.block w2.heap.size (by simp) (by omega)).trans hbx
    exact set2 z S2 w2.heap.size m2 W (by simp [World.cell?, hbz]) ((hS2.below hba).fr hW (by omega)))
  have HSTR := Lib.hid hstr; have HB3 := Lib.hid hb3; have HME2 := Lib.hid hmem2
  have hz2 := hb3.size
  clear hstr hb2 hb3 hba hbx hS2 hmem2 HC2
  go_wp2_with fail
  refine HSTR.out.mono ?_
  rintro e w4 ⟨rfl, ⟨S', hS', hmem'⟩, hF⟩
  have hfin : ∀ u, u ∈ S' ↔ t.inB u = true := fun u => by
    rw [hmem', HME1.out, HIN.out]
    have := HME2.out u
    simp only [decide_eq_false_iff_not]
    rw [this]
    simp
  have hz0 := HW0.out.size
  have hB4 : Below w.heap.size w w4 := (HB1.out.trans (HB3.out.mono (by simp at hz0 hz1; omega))).trans (hF.below (by simp at hz0 hz1; omega) fun i hi e => by simp at hz0 hm1; omega)
  have HS' := Lib.hid hS'; have HFIN := Lib.hid hfin; have HB4 := Lib.hid hB4
  clear hS' hmem' hfin hB4 hF
  go_wp2
  go_ret
  exact ⟨_, S', rfl, by simp at hm1; omega, HS'.out, HFIN.out, HB4.out⟩
set_option maxRecDepth 100000 in
set_option maxHeartbeats 8000000 in
theorem set_and (ih : ∀ x, x ∈ t.parts → SetOk x) (c1 : t.op = sAnd) (c2 : 0 < t.parts.length) (hu : RepD A w (.slice 3 (t.users.map LUser.d)) (.slice ua t.users.length uc)) (hp : RepD A w (.slice 3 (t.parts.map LTree.d)) (.slice pa t.parts.length pc)) :
    Calls Tryz.prog 60 #[.agg #[.string t.op, .slice ua t.users.length uc, .slice pa t.parts.length pc]] w fun e w' => ∃ (mb : Nat) (S : List LUser), e = .returned (.map (some mb)) ∧ w.heap.size ≤ mb ∧ USetAt w' mb S ∧ (∀ u, u ∈ S ↔ t.inB u = true) ∧ Below w.heap.size w w' := by
  have hin : ∀ u, t.inB u = true ↔ ∀ k (hk : k < t.parts.length), t.parts[k].inB u = true := fun u => by
    rw [LTree.inB_eq, LTree.in1, if_neg (by rw [c1]; decide +kernel), if_pos c1]
    have he : (t.parts.map (LTree.inB u)).isEmpty = false := by
      cases hz : t.parts with
      | nil => rw [hz] at c2; simp at c2
      | cons => rfl
    rw [he]
    simp only [Bool.not_false, Bool.true_and, List.all_map, List.all_eq_true, Function.comp_def, id]
    constructor
    · intro h k hk; exact h _ (List.getElem_mem hk)
    · intro h x hx; obtain ⟨k, hk, rfl⟩ := List.mem_iff_getElem.1 hx; exact h k hk
  have c3 : t.op ≠ sOr := by rw [c1]; decide +kernel
  obtain ⟨a1, b1⟩ := str_no c3
  obtain ⟨a2, b2⟩ := str_yes c1
  rw [sOr_list] at a1 b1
  rw [sAnd_list] at a2 b2
  obtain ⟨_, _, ep, hpl, hpc⟩ := tree_cells hp
  injection ep with ep1 _ ep3
  subst ep1 ep3
  have hcap : t.parts.length ≤ pc := by
    obtain ⟨_, _, _, he, hle, _⟩ := hp.rows
    injection he with _ _ e3
    rw [e3]; exact hle
  have hw0 : Below w.heap.size w ((w.alloc (.cells #[.string t.op, .slice ua t.users.length uc, .slice pa t.parts.length pc] 32)).alloc (.map #[] 0)) := ((Below.refl _ w).alloc (Nat.le_refl _) _).alloc (by simp) _
  have hm0 : USetAt ((w.alloc (.cells #[.string t.op, .slice ua t.users.length uc, .slice pa t.parts.length pc] 32)).alloc (.map #[] 0)) (w.heap.size + 1) [] := by
    have := MapAt.made (α := LUser) (β := Unit) (w.alloc (.cells #[.string t.op, .slice ua t.users.length uc, .slice pa t.parts.length pc] 32)) LUser.val oneV
    simpa [USetAt, unitL] using this
  have hbx0 : ((w.alloc (.cells #[.string t.op, .slice ua t.users.length uc, .slice pa t.parts.length pc] 32)).alloc (.map #[] 0)).heap[w.heap.size]? = some (.cells #[.string t.op, .slice ua t.users.length uc, .slice pa t.parts.length pc] 32) := heap_alloc2 rfl
  have HW0 := Lib.hid hw0; have HM0 := Lib.hid hm0; have HIN := Lib.hid hin; have HPC := Lib.hid hpc; have HIH := Lib.hid ih; have HBX0 := Lib.hid hbx0
  clear hu hp c1 c3 hin
  have hmm := @run_makeMap Tryz.prog
  obtain ⟨b, off, xa, xc, ya, yc, rfl, e0, e1, e2, r1, r2⟩ := hpc _ hw0 0 c2
  have hcall := ih t.parts[0] (List.getElem_mem c2) A _ _ _ r1 r2
  have HC := Lib.hid hcall
  simp only [Nat.zero_mul, Nat.add_zero] at e0 e1 e2
  clear hcall r1 r2 hpc hw0 hm0 hbx0 ih
  go_enter Tryz.func60, Tryz.ntmps60
  go_wp2_with fail
  refine HC.out.mono ?_
  rintro e w1 ⟨m1, S1, rfl, hm1, hS1, hmem1, hb1⟩
  have hB1 := HW0.out.trans (hb1.mono HW0.out.size)
  have hlt0 := (Array.getElem?_eq_some_iff.1 HBX0.out).1
  have hbx1 := (hb1.block _ hlt0).trans HBX0.out
  have x0 : w1.cell? ⟨w.heap.size, 0, none⟩ = some (.string t.op) := by simp [World.cell?, hbx1]
  have x2 : w1.cell? ⟨w.heap.size, 2, none⟩ = some (.slice (some ⟨b, off, none⟩) t.parts.length pc) := by simp [World.cell?, hbx1]
  have hz0 := HW0.out.size
  simp only [World.size_alloc] at hz0 hm1
  have hmm1 : w.heap.size ≤ m1 := by omega
  have hE1 : ∀ u, u ∈ S1 ↔ ∀ k (hk : k < t.parts.length), k < 0 + 1 → t.parts[k].inB u = true := fun u => by
    rw [hmem1]
    constructor
    · intro h k hk hk1
      obtain rfl : k = 0 := by omega
      exact h
    · intro h; exact h 0 c2 (by omega)
  have HB1 := Lib.hid hB1; have HS1 := Lib.hid hS1; have HE1 := Lib.hid hE1
  clear HC hB1 hS1 hmem1 hb1 hbx1 hlt0 hE1 e0 e1 e2 HM0 HBX0 hm1
  have hcap1 : 1 ≤ t.parts.length := c2
  have hsub : ((t.parts.length : Int) - 1) = ((t.parts.length - 1 : Nat) : Int) := by omega
  by_cases hpc1 : pc = 1
  · have hl1 : t.parts.length = 1 := by omega
    go_wp2
    go_loopw [60] (fun i wr => ∃ (k : Nat) (S : List LUser), k + 1 ≤ t.parts.length ∧ i = .int .i64 k ∧ Aside (USetAt wr m1 S) ∧ Aside (∀ u, u ∈ S ↔ ∀ j (hj : j < t.parts.length), j < k + 1 → t.parts[j].inB u = true) ∧ Aside (Below w.heap.size w wr))
      (fun i _ => t.parts.length - (intOf i).toNat)
    case atStart => exact ⟨0, S1, by omega, rfl, ⟨HS1.out⟩, ⟨HE1.out⟩, ⟨HB1.out⟩⟩
    case round =>
      obtain ⟨k, S, hk, rfl, hS, hE, hB⟩ := hrel
      have hsz := hB.out.size
      have hml := hS.out.lt
      by_cases hlt : k + 1 < t.parts.length
      · exact absurd hlt (by omega)
      · have hfin : ∀ u, u ∈ S ↔ t.inB u = true := fun u => by
          rw [hE.out, HIN.out]
          constructor
          · intro h j hj; exact h j hj (by omega)
          · intro h j hj _; exact h j hj
        have HF := Lib.hid hfin
        have hlti : ¬ ((k : Nat) : Int) < ((t.parts.length - 1 : Nat) : Int) := by omega
        clear hfin hE
        go_wp2
        go_ret
        first | exact ⟨_, S, rfl, by omega, hS.out, HF.out, hB.out⟩ | exact ⟨_, rfl, by omega, S, hS.out, HF.out, hB.out⟩
  · have hpc2 : ¬ pc = 1 := hpc1
    go_wp2
    go_loopw [60] (fun i wr => ∃ (k : Nat) (S : List LUser), k + 1 ≤ t.parts.length ∧ i = .int .i64 k ∧ Aside (USetAt wr m1 S) ∧ Aside (∀ u, u ∈ S ↔ ∀ j (hj : j < t.parts.length), j < k + 1 → t.parts[j].inB u = true) ∧ Aside (Below w.heap.size w wr))
      (fun i _ => t.parts.length - (intOf i).toNat)
    case atStart => exact ⟨0, S1, by omega, rfl, ⟨HS1.out⟩, ⟨HE1.out⟩, ⟨HB1.out⟩⟩
    case round =>
      obtain ⟨k, S, hk, rfl, hS, hE, hB⟩ := hrel
      have hsz := hB.out.size
      have hml := hS.out.lt
      by_cases hlt : k + 1 < t.parts.length
      · obtain ⟨b', off', xa', xc', ya', yc', hbb, e0, e1, e2, r1, r2⟩ := HPC.out wr hB.out (k + 1) hlt
        injection hbb with hbb
        injection hbb with hbb1 hbb2
        subst hbb1 hbb2
        have hoff : off + (k + 1) * 3 = off + 3 + k * 3 := by omega
        rw [hoff] at e0 e1 e2
        have hok := HIH.out t.parts[k + 1] (List.getElem_mem hlt)
        have hstep : ∀ (T : List LUser) (D : List LUser), (∀ u, u ∈ T ↔ t.parts[k + 1].inB u = true) → (∀ u, u ∈ D ↔ u ∈ S ∧ decide (u ∉ T) = false) → ∀ u, u ∈ D ↔ ∀ j (hj : j < t.parts.length), j < k + 1 + 1 → t.parts[j].inB u = true := by
          intro T D hT hD u
          rw [hD, hE.out, decide_eq_false_iff_not, Classical.not_not, hT]
          constructor
          · rintro ⟨h1, h2⟩ j hj hjk
            by_cases e : j = k + 1
            · subst e; exact h2
            · exact h1 j hj (by omega)
          · intro h
            exact ⟨fun j hj hjk => h j hj (by omega), h (k + 1) hlt (by omega)⟩
        generalize t.parts[k + 1] = x at *
        have hba : Below wr.heap.size wr (wr.alloc (.cells #[.string x.op, .slice xa' x.users.length xc', .slice ya' x.parts.length yc'] 32)) := (Below.refl _ wr).alloc (Nat.le_refl _) _
        have hcall := hok A _ _ _ (r1.old hba) (r2.old hba)
        have HC := Lib.hid hcall; have HBA := Lib.hid hba; have HST := Lib.hid hstep
        have hlti : ((k : Nat) : Int) < ((t.parts.length - 1 : Nat) : Int) := by omega
        clear hcall r1 r2 hba hok hstep
        go_wp2_with fail
        refine HC.out.mono ?_
        rintro e w2 ⟨mb, T, rfl, hmb, hT, hmem, hb2⟩
        have hb3 := below_past HBA.out hb2
        have hbc : Below w2.heap.size w2 (w2.alloc (.cells #[.map (some mb)] 105)) := (Below.refl _ w2).alloc (Nat.le_refl _) _
        have hbx : (w2.alloc (.cells #[.map (some mb)] 105)).heap[w2.heap.size]? = some (.cells #[.map (some mb)] 105) := heap_alloc_at rfl
        have hb4 := below_past hb3 hbc
        have hTl := hT.lt
        have hba2 := HBA.out.size
        simp only [World.size_alloc] at hba2 hmb
        have hz3 := hb3.size
        have hstr := strike_users (hS.out.below hb4) 104 #[.pointer (some ⟨w2.heap.size, 0, none⟩)] (fun u => decide (u ∉ T)) (enters_of Tryz.func104 (by kernel_rfl) rfl) (fun z W hW => by
          have hbz := (hW.block w2.heap.size (by simp) (by omega)).trans hbx
          exact set1 z T w2.heap.size mb W (by simp [World.cell?, hbz]) ((hT.below hbc).fr hW (by omega)))
        have HSTR := Lib.hid hstr; have HB4 := Lib.hid hb4; have HMEM := Lib.hid hmem
        clear hstr hb2 hb3 hb4 hbc hbx hT hmem HC HBA
        go_wp2_with fail
        refine HSTR.out.mono ?_
        rintro e w3 ⟨rfl, ⟨D', hD, hDm⟩, hF⟩
        have hE2 := HST.out T D' HMEM.out hDm
        have hB2 : Below w.heap.size w w3 := (hB.out.trans (HB4.out.mono hsz)).trans (hF.below (by have := HB4.out.size; omega) fun i hi e => by omega)
        have HD := Lib.hid hD; have HB2 := Lib.hid hB2; have HE2 := Lib.hid hE2
        clear hD hB2 hE2 hDm hF hS hE hB HST HMEM HB4
        go_wp2
        first
          | exact ⟨⟨k + 1, _, by omega, by go_num, ⟨HD.out⟩, ⟨HE2.out⟩, ⟨HB2.out⟩⟩, by simp [intOf] <;> omega⟩
          | (go_roundw
             case rel => exact ⟨k + 1, _, by omega, by go_num, ⟨HD.out⟩, ⟨HE2.out⟩, ⟨HB2.out⟩⟩
             case measure => simp [intOf]; omega)
      · have hfin : ∀ u, u ∈ S ↔ t.inB u = true := fun u => by
          rw [hE.out, HIN.out]
          constructor
          · intro h j hj; exact h j hj (by omega)
          · intro h j hj _; exact h j hj
        have HF := Lib.hid hfin
        have hlti : ¬ ((k : Nat) : Int) < ((t.parts.length - 1 : Nat) : Int) := by omega
        clear hfin hE
        go_wp2
        go_ret
        first | exact ⟨_, S, rfl, by omega, hS.out, HF.out, hB.out⟩ | exact ⟨_, rfl, by omega, S, hS.out, HF.out, hB.out⟩
end
theorem expand_set (t : LTree) : SetOk t := by
  induction t using LTree.ind with
  | h t ih =>
  intro A w us ps hu hp
  obtain ⟨ua, uc, huf⟩ := hu.formM
  obtain ⟨pa, pc, hpf⟩ := hp.formM
  subst huf hpf
  by_cases c1 : t.op = sOr
  · exact set_or ih c1 hu hp
  · by_cases c2 : t.op = sAnd ∧ 0 < t.parts.length
    · exact set_and ih c2.1 c2.2 hu hp
    · by_cases c3 : t.op = sBut ∧ t.parts.length = 2
      · obtain ⟨x, y, hxy⟩ : ∃ x y, t.parts = [x, y] := by
          match h : t.parts, c3.2 with
          | [x, y], _ => exact ⟨x, y, rfl⟩
        exact set_but ih c3.1 x y hxy hu hp
      · exact set_none c1 (fun h => by
          rcases Nat.eq_zero_or_pos t.parts.length with h0 | h0
          · exact h0
          · exact absurd ⟨h, h0⟩ c2) (fun h e => c3 ⟨h, e⟩) hu hp
end Go.Proofs.YtnfkjodiielidaaGreatDoor

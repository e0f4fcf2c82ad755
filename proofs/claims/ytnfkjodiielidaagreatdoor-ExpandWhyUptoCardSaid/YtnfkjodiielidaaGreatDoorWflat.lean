/- The users of a tree, in their order. -/
import Derived.Test.YtnfkjodiielidaaGreatDoorWset
import Derived.Test.YtnfkjodiielidaaGreatDoorWcollect
import Derived.Test.YtnfkjodiielidaaGreatDoorWsort
import Derived.Deep.RegionHeld3
namespace Go.Proofs.YtnfkjodiielidaaGreatDoor
set_option linter.unusedVariables false
set_option linter.unusedSimpArgs false
open Go.RowKit

def cmpF (x y : LUser) : Int := if uLess x y then -1 else 1
theorem ltOf_F : ltOf cmpF = uLess := by
  funext x y
  unfold ltOf cmpF
  split
  · rename_i h; simp [h]
  · rename_i h; simp_all
set_option maxRecDepth 100000 in
set_option maxHeartbeats 2000000 in
theorem flat1 (x y : LUser) (w : World) : Calls Tryz.prog 62 #[x.val, y.val] w fun e w' => e = .returned (.int .i64 (cmpF x y)) ∧ Grw w w' := by
  have hG0 : Grw w ((((w.alloc (.cells x.cells.toArray 25)).alloc (.cells y.cells.toArray 25)).alloc (.cells x.cells.toArray 9)).alloc (.cells y.cells.toArray 9)) := ((((Grw.refl w).alloc _).alloc _).alloc _).alloc _
  have hL : uLess x y = ltL [x.kind, x.id, x.rel] [y.kind, y.id, y.rel] := rfl
  unfold cmpF
  cases hl : uLess x y
  all_goals
    rw [hl] at hL
    simp only [Bool.false_eq_true, if_false, if_true]
    have HL := Lib.hid hL
    clear hL hl
    unfold LUser.val LUser.cells at *
    go_enter Tryz.func62, Tryz.ntmps62
    go_wp2_with fail
    refine (less3 x.kind x.id x.rel y.kind y.id y.rel (by first | (refine heap_alloc_at ?_; simp; done) | (refine heap_alloc2 ?_; simp; done)) (by first | (refine heap_alloc_at ?_; simp; done) | (refine heap_alloc2 ?_; simp; done))).mono ?_
    rintro e w' ⟨rfl, rfl⟩
    rw [← HL.out]
    go_wp2
    go_ret
    exact ⟨rfl, hG0⟩
theorem sort_users_F {w : World} {base : Nat} {v : Value} {xs : List LUser} (h : OwnL w base 25 3 LUser.cells v xs) (hl : xs.length ≤ 140737488355328) :
    Calls Tryz.prog 61 #[v, .func (.func 62) #[] #[]] w fun e w' => e = .returned (.tuple #[]) ∧ ∃ ys : List LUser, ys.Perm xs ∧ ys.Pairwise (fun x y => uLess y x = false) ∧ OwnL w' base 25 3 LUser.cells v ys ∧ RowKit.Below base w w' := by
  rcases Nat.eq_zero_or_pos xs.length with h0 | h0
  · obtain rfl : xs = [] := List.eq_nil_of_length_eq_zero h0
    obtain ⟨a, c, rfl, _⟩ := h.form
    have hcon := AnyF.slices_SortFunc_none { sortU with } a c (.func (.func 62) #[] #[]) w
    exact hcon.mono fun e w' ⟨he, hw⟩ => ⟨he, [], List.Perm.refl _, List.Pairwise.nil, by subst hw; exact h, by subst hw; exact RowKit.Below.refl _ _⟩
  · have hb := h.block
    obtain ⟨gb, cap, rfl⟩ : ∃ gb cap, v = .slice (some ⟨gb, 0, none⟩) xs.length cap := by
      rcases h.2 with ⟨_, h1⟩ | ⟨gb, cap, cur, hv, _⟩
      · omega
      · exact ⟨gb, cap, hv⟩
    obtain ⟨hg1, hg2⟩ := hb gb rfl
    have hcon := AnyQ.slices_SortFunc sortU 3 Tryz.isAgg25 Tryz.sizeOf25 LUser.cells LUser.len LUser.one cmpF (by rw [ltOf_F]; exact swo_of_lin lin_uLess) 62 #[] gb 0 cap xs.toArray w
      (enters_of Tryz.func62 (by kernel_rfl) rfl) (cmpLays_of (fun x y W => flat1 x y W) _ _ _ _) (holdsK_of_own LUser.len (by omega) h) hg2 (by simp; omega)
    have hcon' : Calls Tryz.prog 61 #[.slice (some ⟨gb, 0, none⟩) xs.length cap, .func (.func 62) #[] #[]] w _ := hcon
    refine hcon'.mono fun e w' ⟨he, d', n, os, hp, hs, hw⟩ => ⟨he, d'.toList, ?_⟩
    obtain ⟨hp1, hp2⟩ := perm_of_permIn hp
    rw [ltOf_F] at hs
    subst hw
    exact ⟨by simpa using hp1, pairwise_of_sortedIn (by rw [hp2]) hs, own_of_sorted LUser.len (by omega) h d' (by simpa using hp2) n os, below_sorted hg1 d' n os hg2⟩
theorem sub_len {α : Type} [DecidableEq α] : ∀ (a b : List α), a.Nodup → (∀ x, x ∈ a → x ∈ b) → a.length ≤ b.length := by
  intro a
  induction a with
  | nil => intro b _ _; simp
  | cons x a ih =>
    intro b hn hs
    obtain ⟨h1, h2⟩ := List.nodup_cons.1 hn
    have hx := hs x (by simp)
    have := ih (b.erase x) h2 fun y hy => by
      have hne : y ≠ x := by rintro rfl; exact h1 hy
      exact (List.mem_erase_of_ne hne).2 (hs y (by simp [hy]))
    rw [List.length_erase_of_mem hx] at this
    have := List.length_pos_of_mem hx
    simp only [List.length_cons]
    omega
set_option maxRecDepth 100000 in
set_option maxHeartbeats 4000000 in
theorem expand_Flat {A : Nat → Prop} {w : World} {t : LTree} {us ps : Value} (hu : RepD A w (.slice 3 (t.users.map LUser.d)) us) (hp : RepD A w (.slice 3 (t.parts.map LTree.d)) ps) (hn : t.named.length ≤ 1000000000) :
    Calls Tryz.prog 28 #[.agg #[.string t.op, us, ps]] w fun e w' => ∃ v, e = .returned v ∧ OwnL w' w.heap.size 25 3 LUser.cells v t.flat ∧ Below w.heap.size w w' := by
  obtain ⟨ua, uc, huf⟩ := hu.formM
  obtain ⟨pa, pc, hpf⟩ := hp.formM
  subst huf hpf
  have hB0 : Below w.heap.size w (w.alloc (.cells #[.string t.op, .slice ua t.users.length uc, .slice pa t.parts.length pc] 32)) := (Below.refl _ w).alloc (Nat.le_refl _) _
  have hset := expand_set t A _ _ _ (hu.old hB0) (hp.old hB0)
  have HB0 := Lib.hid hB0; have HS := Lib.hid hset
  clear hu hp hB0 hset
  go_enter Tryz.func28, Tryz.ntmps28
  go_wp2_with fail
  refine HS.out.mono ?_
  rintro e w1 ⟨mb, S, rfl, hmb, hS, hmem, hb1⟩
  have hSl : S.length ≤ 1000000000 := Nat.le_trans (sub_len S t.named hS.nodup fun x hx => LTree.named_of_in x t ((hmem x).1 hx)) hn
  have hB1 := below_past HB0.out hb1
  have HSet := Lib.hid hS; have HM := Lib.hid hmem; have HB1 := Lib.hid hB1
  clear HS hS hmem hb1 HB0 hB1
  go_wp2_with fail
  refine (keys_users mb w1).mono ?_
  rintro e w2 ⟨rfl, rfl⟩
  have hbx : Below w1.heap.size w1 (w1.alloc (.cells #[.map (some mb)] 105)) := (Below.refl _ w1).alloc (Nat.le_refl _) _
  have hcol := collect_users w1.heap.size mb S (by omega) (w1.alloc (.cells #[.map (some mb)] 105)) (by simp) (by simp) (MapAt.below HSet.out hbx)
  have HCOL := Lib.hid hcol; have HBX := Lib.hid hbx
  clear hcol hbx
  go_wp2_with fail
  refine HCOL.out.mono ?_
  rintro e w3 ⟨v, ss, rfl, hpm, hO, hb3⟩
  have hssl : ss.length ≤ 1000000000 := by rw [hpm.length_eq]; exact hSl
  have hsort := sort_users_F hO (by omega)
  have HSRT := Lib.hid hsort
  have hB3 := below_past (below_past HB1.out HBX.out) hb3
  have HB3 := Lib.hid hB3
  have h13 := HBX.out.size
  have h01 := HB1.out.size
  have HP := Lib.hid hpm
  clear hsort hO hb3 hB3 HCOL hpm
  go_wp2_with fail
  refine HSRT.out.mono ?_
  rintro e w4 ⟨rfl, ys, hpe, hpw, hO4, hB4⟩
  have hnd : ss.Nodup := HP.out.nodup_iff.2 HSet.out.nodup
  have hys : ys = t.flat := by
    rw [sorted_eq_canon lin_uLess hpe hnd hpw]
    exact LTree.eq_flat fun u => by rw [HP.out.mem_iff]; exact HM.out u
  subst hys
  have HO4 := Lib.hid hO4
  clear hO4 hpe hpw hnd
  go_wp2
  go_ret
  exact ⟨_, rfl, HO4.out.rebase (by omega), HB3.out.trans (hB4.mono (by omega))⟩
end Go.Proofs.YtnfkjodiielidaaGreatDoor

/- The document's layer 15: few, how many, the same. -/
import Derived.Test.YtnfkjodiielidaaGreatDoorPtree
import Derived.Test.YtnfkjodiielidaaGreatDoorWset
import Derived.Test.YtnfkjodiielidaaGreatDoorWpeople
import Derived.Deep.RegionHeld3
namespace Go.Proofs.YtnfkjodiielidaaGreatDoor
set_option linter.unusedVariables false
set_option linter.unusedSimpArgs false
open Go.RowKit

/-- A tree's box. -/
def TBox (W : World) (b : Nat) (t : LTree) (ua : Option Addr) (uc : Nat) (pa : Option Addr) (pc : Nat) : Prop := W.heap[b]? = some (.cells #[.string t.op, .slice ua t.users.length uc, .slice pa t.parts.length pc] 32)
theorem TBox.cells {W : World} {b : Nat} {t : LTree} {ua : Option Addr} {uc : Nat} {pa : Option Addr} {pc : Nat} (h : TBox W b t ua uc pa pc) : W.cell? ⟨b, 0, none⟩ = some (.string t.op) ∧ W.cell? ⟨b, 1, none⟩ = some (.slice ua t.users.length uc) ∧ W.cell? ⟨b, 2, none⟩ = some (.slice pa t.parts.length pc) := by
  unfold TBox at h
  refine ⟨?_, ?_, ?_⟩ <;> simp [World.cell?, h]
theorem TBox.old {W W' : World} {b : Nat} {t : LTree} {ua : Option Addr} {uc : Nat} {pa : Option Addr} {pc : Nat} (h : TBox W b t ua uc pa pc) (hb : Below W.heap.size W W') : TBox W' b t ua uc pa pc := (hb.block b (Array.getElem?_eq_some_iff.1 h).1).trans h
theorem user_cells {A : Nat → Prop} {w : World} {xs : List LUser} {v : Value} (h : RepD A w (.slice 3 (xs.map LUser.d)) v) : ∃ a c, v = .slice a xs.length c ∧ xs.length ≤ 140737488355328 ∧ ∀ (W : World), Below w.heap.size w W → ∀ k (hk : k < xs.length), ∃ b off, a = some ⟨b, off, none⟩ ∧
    W.cell? ⟨b, off + k * 3, none⟩ = some (.string xs[k].kind) ∧ W.cell? ⟨b, off + k * 3 + 1, none⟩ = some (.string xs[k].id) ∧ W.cell? ⟨b, off + k * 3 + 2, none⟩ = some (.string xs[k].rel) := by
  obtain ⟨a, c, rfl, _, hl, hk⟩ := h.users
  refine ⟨a, c, rfl, hl, fun W hW k hlt => ?_⟩
  obtain ⟨b, off, ha, _, c0, c1, c2⟩ := hk k hlt
  have hbl : b < w.heap.size := World.block_lt_of_cell? w _ c0
  have hc : ∀ o, W.cell? ⟨b, o, none⟩ = w.cell? ⟨b, o, none⟩ := fun o => hW.cell (p := ⟨b, o, none⟩) hbl
  exact ⟨b, off, ha, (hc _).trans c0, (hc _).trans c1, (hc _).trans c2⟩
theorem few_no_user {n : Nat} {t : LTree} {k : Nat} (hk : k < t.users.length) (h : LTree.shortU t.users[k] = false) : LTree.few (n + 1) t = false := by
  simp only [LTree.few, Bool.and_eq_false_iff]
  left; right
  rw [List.all_eq_false]
  exact ⟨_, List.getElem_mem hk, by simp [h]⟩
theorem few_no_part {n : Nat} {t : LTree} {k : Nat} (hk : k < t.parts.length) (h : LTree.few n t.parts[k] = false) : LTree.few (n + 1) t = false := by
  simp only [LTree.few, Bool.and_eq_false_iff]
  right
  rw [List.all_eq_false]
  exact ⟨_, List.getElem_mem hk, by simp [h]⟩
set_option maxRecDepth 100000 in
set_option maxHeartbeats 8000000 in
theorem ref_Few15 (n : Nat) : n ≤ 100 → ∀ (t : LTree) (A : Nat → Prop) (w : World) (us ps : Value), RepD A w (.slice 3 (t.users.map LUser.d)) us → RepD A w (.slice 3 (t.parts.map LTree.d)) ps →
    Calls Tryz.prog 26 #[.agg #[.string t.op, us, ps], .int .i64 n] w fun e w' => e = .returned (.bool (LTree.few n t)) ∧ Below w.heap.size w w' := by
  induction n with
  | zero =>
    intro _ t A w us ps hu hp
    obtain ⟨ua, uc, huf⟩ := hu.formM
    obtain ⟨pa, pc, hpf⟩ := hp.formM
    subst huf hpf
    have hB : Below w.heap.size w (w.alloc (.cells #[.string t.op, .slice ua t.users.length uc, .slice pa t.parts.length pc] 32)) := (Below.refl _ w).alloc (Nat.le_refl _) _
    have HB := Lib.hid hB
    clear hu hp hB
    simp only [LTree.few]
    go_enter Tryz.func26, Tryz.ntmps26
    go_wp2
    go_ret
    exact ⟨rfl, HB.out⟩
  | succ n ih =>
    intro hn t A w us ps hu hp
    have ih2 := ih (by omega)
    clear ih
    rw [show ((n + 1 : Nat) : Int) = (n : Int) + 1 by omega]
    obtain ⟨ua, uc, huf, hul, huk⟩ := user_cells hu
    obtain ⟨pa, pc, hpf, hpl, hpk⟩ := tree_cells hp
    subst huf hpf
    have hB0 : Below w.heap.size w (w.alloc (.cells #[.string t.op, .slice ua t.users.length uc, .slice pa t.parts.length pc] 32)) := (Below.refl _ w).alloc (Nat.le_refl _) _
    have hX0 : TBox (w.alloc (.cells #[.string t.op, .slice ua t.users.length uc, .slice pa t.parts.length pc] 32)) w.heap.size t ua uc pa pc := heap_alloc_at rfl
    have hnz : ((n + 1 : Nat) : Int) ≠ 0 := by omega
    have hnz2 : (((n : Nat) : Int) + 1 = 0) = False := by simp; omega
    have hn1 : ((n : Nat) : Int) ≤ 100 := by omega
    have hnb : ((((n : Nat) : Int) + 1) == 0) = false := by rw [beq_eq_false_iff_ne]; omega
    have hnc : ((n + 1 : Nat) : Int) = (n : Int) + 1 := by omega
    have hall : t.users.length ≤ 40 → t.parts.length ≤ 40 → (∀ k (hk : k < t.users.length), LTree.shortU t.users[k] = true) → (∀ k (hk : k < t.parts.length), LTree.few n t.parts[k] = true) → LTree.few (n + 1) t = true := fun h1 h2 h3 h4 => by
      simp only [LTree.few, Bool.and_eq_true, decide_eq_true_eq, List.all_eq_true]
      refine ⟨⟨⟨h1, h2⟩, fun x hx => ?_⟩, fun x hx => ?_⟩
      · obtain ⟨k, hk, rfl⟩ := List.mem_iff_getElem.1 hx; exact h3 k hk
      · obtain ⟨k, hk, rfl⟩ := List.mem_iff_getElem.1 hx; exact h4 k hk
    have hno1 : 40 < t.users.length → LTree.few (n + 1) t = false := fun h => by simp [LTree.few]; intro h1; omega
    have hno2 : 40 < t.parts.length → LTree.few (n + 1) t = false := fun h => by simp [LTree.few]; intro h1 h2; omega
    have hno3 := fun k hk h => few_no_user (n := n) (t := t) (k := k) hk h
    have hno4 := fun k hk h => few_no_part (n := n) (t := t) (k := k) hk h
    generalize LTree.few (n + 1) t = r at *
    have HB0 := Lib.hid hB0; have HX0 := Lib.hid hX0; have HUK := Lib.hid huk; have HPK := Lib.hid hpk; have HALL := Lib.hid hall; have HN3 := Lib.hid hno3; have HN4 := Lib.hid hno4; have HIH := Lib.hid ih2
    clear hu hp hB0 hX0 huk hpk hall hno3 hno4 ih2
    by_cases h1 : 40 < t.users.length
    · obtain rfl := hno1 h1
      clear hno1 hno2
      go_enter Tryz.func26, Tryz.ntmps26
      go_wp2
      go_ret
      exact ⟨rfl, HB0.out⟩
    by_cases h2 : 40 < t.parts.length
    · obtain rfl := hno2 h2
      clear hno1 hno2
      go_enter Tryz.func26, Tryz.ntmps26
      go_wp2
      go_ret
      exact ⟨rfl, HB0.out⟩
    clear hno1 hno2
    go_enter Tryz.func26, Tryz.ntmps26
    go_wp2
    go_loopw [5] (fun i wr => ∃ k : Nat, k ≤ t.users.length ∧ i = .int .i64 k ∧ Aside (Below w.heap.size w wr) ∧ Aside (TBox wr w.heap.size t ua uc pa pc) ∧ Aside (∀ j (hj : j < t.users.length), j < k → LTree.shortU t.users[j] = true)) (fun i _ => t.users.length - (intOf i).toNat)
    case atStart => exact ⟨0, by omega, rfl, ⟨HB0.out⟩, ⟨HX0.out⟩, ⟨fun j _ h => by omega⟩⟩
    case round =>
      obtain ⟨k, hk, rfl, hB, hX, hE⟩ := hrel
      obtain ⟨x0, x1, x2⟩ := hX.out.cells
      by_cases hlt : k < t.users.length
      · obtain ⟨b, off, rfl, e0, e1, e2⟩ := HUK.out wr hB.out k hlt
        have hn3 := HN3.out k hlt
        have hE2 : LTree.shortU t.users[k] = true → ∀ j (hj : j < t.users.length), j < k + 1 → LTree.shortU t.users[j] = true := fun h j hj hjk => by
          by_cases e : j = k
          · subst e; exact h
          · exact hE.out j hj (by omega)
        unfold LTree.shortU at hn3
        have hsh : ∀ u : LUser, u.kind.size ≤ 100 → u.id.size ≤ 100 → u.rel.size ≤ 100 → LTree.shortU u = true := fun u h1 h2 h3 => by simp [LTree.shortU, h1, h2, h3]
        have hok := fun (a : t.users[k].kind.size ≤ 100) (b : t.users[k].id.size ≤ 100) (c : t.users[k].rel.size ≤ 100) => hE2 (hsh _ a b c)
        generalize t.users[k] = x at *
        have HN3 := Lib.hid hn3; have HOK := Lib.hid hok
        clear hn3 hE2 hsh hok hE
        by_cases g1 : 100 < x.kind.size
        · obtain rfl := HN3.out (by simp; omega)
          go_wp2
          go_ret
          exact ⟨rfl, hB.out⟩
        by_cases g2 : 100 < x.id.size
        · obtain rfl := HN3.out (by simp; omega)
          go_wp2
          go_ret
          exact ⟨rfl, hB.out⟩
        by_cases g3 : 100 < x.rel.size
        · obtain rfl := HN3.out (by simp; omega)
          go_wp2
          go_ret
          exact ⟨rfl, hB.out⟩
        have hE3 := HOK.out (by omega) (by omega) (by omega)
        have HE3 := Lib.hid hE3
        clear hE3 HN3 HOK
        go_wp2
        first
          | exact ⟨⟨k + 1, by omega, by go_num, ⟨hB.out⟩, ⟨hX.out⟩, ⟨HE3.out⟩⟩, by simp [intOf] <;> omega⟩
          | (go_roundw
             case rel => exact ⟨k + 1, by omega, by go_num, ⟨hB.out⟩, ⟨hX.out⟩, ⟨HE3.out⟩⟩
             case measure => simp [intOf]; omega)
      · have hEU := Lib.hid (fun j hj => hE.out j hj (by omega))
        have hB1 := hB; have hX1 := hX
        clear hE hB hX
        go_wp2
        obtain ⟨wo, rfl⟩ : ∃ x, x = wr := ⟨wr, rfl⟩
        clear x0 x1 x2
        go_loopw [6] (fun i wr => ∃ k : Nat, k ≤ t.parts.length ∧ i = .int .i64 k ∧ Aside (Below w.heap.size w wr) ∧ Aside (TBox wr w.heap.size t ua uc pa pc) ∧ Aside (∀ j (hj : j < t.parts.length), j < k → LTree.few n t.parts[j] = true)) (fun i _ => t.parts.length - (intOf i).toNat)
        case atStart => exact ⟨0, by omega, rfl, ⟨hB1.out⟩, ⟨hX1.out⟩, ⟨fun j _ h => by omega⟩⟩
        case round =>
          obtain ⟨k, hk, rfl, hB, hX, hE⟩ := hrel
          obtain ⟨x0, x1, x2⟩ := hX.out.cells
          by_cases hlt : k < t.parts.length
          · obtain ⟨b, off, xa, xc, ya, yc, rfl, e0, e1, e2, r1, r2⟩ := HPK.out wr hB.out k hlt
            have hcall := HIH.out t.parts[k] A wr _ _ r1 r2
            have hn4 := HN4.out k hlt
            have hE2 : LTree.few n t.parts[k] = true → ∀ j (hj : j < t.parts.length), j < k + 1 → LTree.few n t.parts[j] = true := fun h j hj hjk => by
              by_cases e : j = k
              · subst e; exact h
              · exact hE.out j hj (by omega)
            generalize LTree.few n t.parts[k] = q at *
            generalize t.parts[k] = x at *
            have HC := Lib.hid hcall; have HN4 := Lib.hid hn4; have HE2 := Lib.hid hE2
            clear hcall hn4 hE2 hE r1 r2
            go_wp2_with fail
            refine HC.out.mono ?_
            rintro e w2 ⟨rfl, hb2⟩
            have hB2 := below_past hB.out hb2
            have hX2 := hX.out.old hb2
            clear hb2
            cases q with
            | false =>
              obtain rfl := HN4.out rfl
              go_wp2
              go_ret
              exact ⟨rfl, hB2⟩
            | true =>
              have hE3 := HE2.out rfl
              have HE3 := Lib.hid hE3
              clear hE3
              go_wp2
              first
                | exact ⟨⟨k + 1, by omega, by go_num, ⟨hB2⟩, ⟨hX2⟩, ⟨HE3.out⟩⟩, by simp [intOf] <;> omega⟩
                | (go_roundw
                   case rel => exact ⟨k + 1, by omega, by go_num, ⟨hB2⟩, ⟨hX2⟩, ⟨HE3.out⟩⟩
                   case measure => simp [intOf]; omega)
          · have ht := HALL.out (by omega) (by omega) hEU.out (fun j hj => hE.out j hj (by omega))
            subst ht
            clear hE
            go_wp2
            go_ret
            exact ⟨rfl, hB.out⟩
set_option maxRecDepth 100000 in
set_option maxHeartbeats 8000000 in
theorem ref_Size15 (t : LTree) : t.natSize ≤ 1000000000000 → ∀ (A : Nat → Prop) (w : World) (us ps : Value), RepD A w (.slice 3 (t.users.map LUser.d)) us → RepD A w (.slice 3 (t.parts.map LTree.d)) ps →
    Calls Tryz.prog 27 #[.agg #[.string t.op, us, ps]] w fun e w' => e = .returned (.int .i64 t.natSize) ∧ Below w.heap.size w w' := by
  induction t using LTree.ind with
  | h t ih =>
  intro hn A w us ps hu hp
  obtain ⟨ua, uc, huf⟩ := hu.formM
  obtain ⟨pa, pc, hpf, hpl, hpk⟩ := tree_cells hp
  subst huf hpf
  have hB0 : Below w.heap.size w (w.alloc (.cells #[.string t.op, .slice ua t.users.length uc, .slice pa t.parts.length pc] 32)) := (Below.refl _ w).alloc (Nat.le_refl _) _
  have hX0 : TBox (w.alloc (.cells #[.string t.op, .slice ua t.users.length uc, .slice pa t.parts.length pc] 32)) w.heap.size t ua uc pa pc := heap_alloc_at rfl
  have hns := t.natSize_eq
  have hsum : ∀ k (hk : k < t.parts.length), ((t.parts.take (k + 1)).map LTree.natSize).sum = ((t.parts.take k).map LTree.natSize).sum + t.parts[k].natSize ∧ ((t.parts.take (k + 1)).map LTree.natSize).sum ≤ (t.parts.map LTree.natSize).sum := fun k hk => by
    refine ⟨by rw [List.take_succ_eq_append_getElem hk, List.map_append, List.sum_append]; simp only [List.map_cons, List.map_nil, List.sum_cons, List.sum_nil, Nat.add_zero], ?_⟩
    have h3 : t.parts.map LTree.natSize = (t.parts.take (k + 1)).map LTree.natSize ++ (t.parts.drop (k + 1)).map LTree.natSize := by rw [← List.map_append, List.take_append_drop]
    rw [h3, List.sum_append]
    omega
  have hend : ((t.parts.take t.parts.length).map LTree.natSize).sum = (t.parts.map LTree.natSize).sum := by rw [List.take_length]
  have ih2 : ∀ k (hk : k < t.parts.length), t.parts[k].natSize ≤ 1000000000000 → _ := fun k hk => ih t.parts[k] (List.getElem_mem hk)
  obtain ⟨F, hF⟩ : ∃ f : Nat → Nat, ∀ k, ((t.parts.take k).map LTree.natSize).sum = f k := ⟨fun k => _, fun k => rfl⟩
  have hF0 : F 0 = 0 := by rw [← hF]; simp
  simp only [hF] at hsum hend
  clear hF
  generalize hS : (t.parts.map LTree.natSize).sum = S at *
  rw [hns]
  rw [hns] at hn
  have HB0 := Lib.hid hB0; have HX0 := Lib.hid hX0; have HPK := Lib.hid hpk; have HIH := Lib.hid ih2; have HS := Lib.hid hsum; have HE := Lib.hid hend; have HF0 := Lib.hid hF0
  clear hu hp hB0 hX0 hpk ih2 ih hsum hend hns hS hF0
  go_enter Tryz.func27, Tryz.ntmps27
  go_wp2
  go_loopw [3, 4] (fun n i wr => ∃ k : Nat, k ≤ t.parts.length ∧ i = .int .i64 k ∧ n = .int .i64 ((F k : Int) + 1) ∧ Aside (Below w.heap.size w wr) ∧ Aside (TBox wr w.heap.size t ua uc pa pc)) (fun _ i _ => t.parts.length - (intOf i).toNat)
  case atStart => exact ⟨0, by omega, rfl, by rw [HF0.out]; rfl, ⟨HB0.out⟩, ⟨HX0.out⟩⟩
  case round =>
    obtain ⟨k, hk, rfl, rfl, hB, hX⟩ := hrel
    obtain ⟨x0, x1, x2⟩ := hX.out.cells
    by_cases hlt : k < t.parts.length
    · obtain ⟨b, off, xa, xc, ya, yc, rfl, e0, e1, e2, r1, r2⟩ := HPK.out wr hB.out k hlt
      obtain ⟨s1, s2⟩ := HS.out k hlt
      have hcall := HIH.out k hlt (by omega) A wr _ _ r1 r2
      generalize t.parts[k] = x at *
      generalize x.natSize = q at *
      have hF1 : ((F (k + 1) : Nat) : Int) = F k + q := by omega
      have hFb : (F k : Int) + q ≤ 1000000000000 := by omega
      have HC := Lib.hid hcall; have HF1 := Lib.hid hF1
      clear hcall r1 r2 s1 s2 hF1
      go_wp2_with fail
      refine HC.out.mono ?_
      rintro e w2 ⟨rfl, hb2⟩
      have hB2 := below_past hB.out hb2
      have hX2 := hX.out.old hb2
      clear hb2
      go_wp2
      first
        | exact ⟨⟨k + 1, by omega, by go_num, by rw [HF1.out]; congr 1; omega, ⟨hB2⟩, ⟨hX2⟩⟩, by simp [intOf] <;> omega⟩
        | (go_roundw
           case rel => exact ⟨k + 1, by omega, by go_num, by rw [HF1.out]; congr 1; omega, ⟨hB2⟩, ⟨hX2⟩⟩
           case measure => simp [intOf]; omega)
    · have hkn : k = t.parts.length := by omega
      have he := HE.out
      rw [← hkn] at he
      have HEE := Lib.hid he
      clear he
      go_wp2
      go_ret
      exact ⟨ret_int (by rw [HEE.out]; simp), hB.out⟩
end Go.Proofs.YtnfkjodiielidaaGreatDoor

/- ExpandWhy: the walk. -/
import Derived.Test.YtnfkjodiielidaaGreatDoorWltu
import Derived.Deep.RegionHeld3
namespace Go.Proofs.YtnfkjodiielidaaGreatDoor
set_option linter.unusedVariables false
set_option linter.unusedSimpArgs false
open Go.RowKit

set_option maxRecDepth 100000 in
set_option maxHeartbeats 4000000 in
theorem law_names {A : Nat → Prop} {w : World} {t : LTree} {us ps : Value} (hu : RepD A w (.slice 3 (t.users.map LUser.d)) us) (hp : RepD A w (.slice 3 (t.parts.map LTree.d)) ps) (u : LUser) :
    Calls Tryz.prog 33 #[.agg #[.string t.op, us, ps], .agg #[.string u.kind, .string u.id, .string u.rel]] w fun e w' => e = .returned (.bool (decide (u ∈ t.users))) ∧ Below w.heap.size w w' := by
  have mixed : Tryz.prog.follows Departure.mixedOrders = true := by kernel_rfl
  obtain ⟨pa, pc, hpf⟩ := hp.formM
  subst hpf
  obtain ⟨ua, uc, huf, hul, huk⟩ := user_cells hu
  subst huf
  have hB0 : Below w.heap.size w ((w.alloc (.cells #[.string t.op, .slice ua t.users.length uc, .slice pa t.parts.length pc] 32)).alloc (.cells #[.string u.kind, .string u.id, .string u.rel] 25)) := ((Below.refl _ w).alloc (Nat.le_refl _) _).alloc (by simp) _
  have hX0 : TBox ((w.alloc (.cells #[.string t.op, .slice ua t.users.length uc, .slice pa t.parts.length pc] 32)).alloc (.cells #[.string u.kind, .string u.id, .string u.rel] 25)) w.heap.size t ua uc pa pc := heap_alloc2 rfl
  have hbu : ((w.alloc (.cells #[.string t.op, .slice ua t.users.length uc, .slice pa t.parts.length pc] 32)).alloc (.cells #[.string u.kind, .string u.id, .string u.rel] 25)).heap[w.heap.size + 1]? = some (.cells #[.string u.kind, .string u.id, .string u.rel] 25) := heap_alloc_at (by simp)
  generalize hr : decide (u ∈ t.users) = r
  have HR := Lib.hid hr; have HB0 := Lib.hid hB0; have HX0 := Lib.hid hX0; have HBU := Lib.hid hbu; have HUK := Lib.hid huk
  clear hr hu hp hB0 hX0 hbu huk
  go_enter Tryz.func33, Tryz.ntmps33
  go_wp2
  go_loopw [5] (fun i wr => ∃ k : Nat, k ≤ t.users.length ∧ i = .int .i64 k ∧ Aside (Below w.heap.size w wr) ∧ Aside (TBox wr w.heap.size t ua uc pa pc) ∧ Aside (wr.heap[w.heap.size + 1]? = some (.cells #[.string u.kind, .string u.id, .string u.rel] 25)) ∧ Aside (u ∉ t.users.take k)) (fun i _ => t.users.length - (intOf i).toNat)
  case atStart => exact ⟨0, by omega, rfl, ⟨HB0.out⟩, ⟨HX0.out⟩, ⟨HBU.out⟩, ⟨by simp⟩⟩
  case round =>
    obtain ⟨k, hk, rfl, hB, hX, hU, hF⟩ := hrel
    obtain ⟨x0, x1, x2⟩ := hX.out.cells
    by_cases hlt : k < t.users.length
    · obtain ⟨b, off, rfl, e0, e1, e2⟩ := HUK.out wr hB.out k hlt
      obtain ⟨c0, c1, c2⟩ := ucells (u := u) hU.out
      have hx : t.users.take (k + 1) = t.users.take k ++ [t.users[k]] := List.take_succ_eq_append_getElem hlt
      have HX := Lib.hid hx; clear hx
      have hm : t.users[k] ∈ t.users := List.getElem_mem hlt
      have HM := Lib.hid hm; clear hm
      generalize t.users[k] = x at *
      have heq := user_eql x u
      unfold LUser.val at heq
      by_cases hxy : x = u
      · rw [decide_eq_true hxy] at heq
        have hf : true = r := by rw [← HR.out]; have := HM.out; rw [hxy] at this; simp [this]
        have HF := Lib.hid hf; clear hf hxy
        go_wp2_with fail
        go_region_o
        go_wp2
        go_ret
        exact ⟨ret_bool HF.out, hB.out.drew⟩
      · rw [decide_eq_false hxy] at heq
        have hno : u ∉ t.users.take (k + 1) := by rw [HX.out]; simp only [List.mem_append, List.mem_singleton, not_or]; exact ⟨hF.out, fun e => hxy e.symm⟩
        have HNO := Lib.hid hno; clear hno hxy
        go_wp2_with fail
        go_region_o
        go_wp2
        go_roundw
        case rel => exact ⟨k + 1, by omega, by go_num, ⟨hB.out.drew⟩, ⟨hX.out⟩, ⟨hU.out⟩, ⟨HNO.out⟩⟩
        case measure => simp [intOf]; omega
    · have ht : false = r := by
        have h1 := hF.out
        rw [List.take_of_length_le (by omega)] at h1
        rw [← HR.out]
        simp [h1]
      have HT := Lib.hid ht; clear ht
      go_wp2
      go_ret
      exact ⟨ret_bool HT.out, hB.out⟩
/-- A way, opened. -/
theorem way_cells {A : Nat → Prop} {w : World} {xs : List Nat} {v : Value} (h : RepD A w (.slice 1 (xs.map natD)) v) : ∃ a c, v = .slice a xs.length c ∧ xs.length ≤ 140737488355328 ∧ ∀ (W : World), Below w.heap.size w W → ∀ k (hk : k < xs.length), ∃ b off, a = some ⟨b, off, none⟩ ∧ W.cell? ⟨b, off + k, none⟩ = some (.int .i64 (xs[k] : Nat)) := by
  obtain ⟨a, c, us, rfl, _, hl, hk⟩ := h.rows
  refine ⟨a, c, rfl, hl, fun W hW k hlt => ?_⟩
  obtain ⟨b, off, ha, _, hj⟩ := hk k hlt
  obtain ⟨c0, r0⟩ := hj 0 (by omega)
  have e := r0.int_eq
  rw [e, Nat.mul_one, Nat.add_zero] at c0
  exact ⟨b, off, ha, (hW.cell (p := ⟨b, off + k, none⟩) (World.block_lt_of_cell? w _ c0)).trans c0⟩
theorem ahead_drop (a b : List Nat) (k : Nat) (h1 : k < a.length) (h2 : k < b.length) : LTree.aheadN (a.drop k) (b.drop k) = (decide (a[k] < b[k]) || (decide (a[k] = b[k]) && LTree.aheadN (a.drop (k + 1)) (b.drop (k + 1)))) := by
  rw [List.drop_eq_getElem_cons h1, List.drop_eq_getElem_cons h2]
  rfl
theorem ahead_end (a b : List Nat) (k : Nat) (h1 : k ≤ a.length) (h2 : k ≤ b.length) (h : k = a.length ∨ k = b.length) : LTree.aheadN (a.drop k) (b.drop k) = decide (a.length < b.length) := by
  unfold LTree.aheadN
  by_cases hb : k = b.length
  · subst hb
    rw [List.drop_length]
    have : ¬ a.length < b.length := by omega
    rw [decide_eq_false this]
    cases a.drop b.length <;> rfl
  · have ha : k = a.length := by omega
    subst ha
    rw [List.drop_length, List.drop_eq_getElem_cons (by omega), decide_eq_true (by omega)]
    rfl
set_option maxRecDepth 100000 in
set_option maxHeartbeats 4000000 in
theorem law_ahead {A : Nat → Prop} {w : World} {a b : List Nat} {va vb : Value} (ha : RepD A w (.slice 1 (a.map natD)) va) (hb : RepD A w (.slice 1 (b.map natD)) vb) :
    Calls Tryz.prog 34 #[va, vb] w fun e w' => e = .returned (.bool (LTree.aheadN a b)) ∧ Below w.heap.size w w' := by
  have mixed : Tryz.prog.follows Departure.mixedOrders = true := by kernel_rfl
  obtain ⟨aa, ac, rfl, hal, hak⟩ := way_cells ha
  obtain ⟨ba, bc, rfl, hbl, hbk⟩ := way_cells hb
  generalize hr : LTree.aheadN a b = r
  have HR := Lib.hid hr; have HAK := Lib.hid hak; have HBK := Lib.hid hbk
  clear hr ha hb hak hbk
  go_enter Tryz.func34, Tryz.ntmps34
  go_wp2
  go_loopw [5] (fun i wr => ∃ k : Nat, k ≤ a.length ∧ k ≤ b.length ∧ i = .int .i64 k ∧ Aside (Below w.heap.size w wr) ∧ Aside (LTree.aheadN (a.drop k) (b.drop k) = r)) (fun i _ => a.length - (intOf i).toNat)
  case atStart => exact ⟨0, by omega, by omega, rfl, ⟨Below.refl _ _⟩, ⟨by simpa using HR.out⟩⟩
  case round =>
    obtain ⟨k, hk, hk2, rfl, hB, hE⟩ := hrel
    by_cases hlt : k < a.length
    · by_cases hlt2 : k < b.length
      · obtain ⟨b1, off1, rfl, e0⟩ := HAK.out wr hB.out k hlt
        obtain ⟨b2, off2, rfl, f0⟩ := HBK.out wr hB.out k hlt2
        have hst := ahead_drop a b k hlt hlt2
        rw [hE.out] at hst
        generalize a[k] = x at *
        generalize b[k] = y at *
        by_cases hxy : x = y
        · subst hxy
          have hn : LTree.aheadN (a.drop (k + 1)) (b.drop (k + 1)) = r := by rw [hst]; simp
          have HN := Lib.hid hn
          clear hst hn hE
          go_wp2_with fail
          go_region_o
          go_wp2
          go_roundw
          case rel => exact ⟨k + 1, by omega, by omega, by go_num, ⟨hB.out.drew⟩, ⟨HN.out⟩⟩
          case measure => simp [intOf]; omega
        · have hn : decide (x < y) = r := by
            rw [hst, decide_eq_false hxy]
            simp
          have HN := Lib.hid hn
          have hne : ((x : Int) = y) = False := eq_false (by omega)
          clear hst hn hE
          go_wp2_with fail
          go_region_o
          go_wp2
          go_region_o
          go_wp2
          go_ret
          exact ⟨ret_bool HN.out, hB.out.drew.drew⟩
      · have hn := ahead_end a b k hk hk2 (by omega)
        rw [hE.out] at hn
        have HN := Lib.hid hn
        clear hn hE
        go_wp2
        go_ret
        exact ⟨ret_bool (by first | exact HN.out.symm | exact HN.out | (rw [HN.out]; simp)), hB.out⟩
    · have hn := ahead_end a b k hk hk2 (by omega)
      rw [hE.out] at hn
      have HN := Lib.hid hn
      clear hn hE
      go_wp2
      go_ret
      exact ⟨ret_bool (by first | exact HN.out.symm | exact HN.out | (rw [HN.out]; simp)), hB.out⟩
set_option maxRecDepth 100000 in
set_option maxHeartbeats 8000000 in
theorem law_count (u : LUser) (t : LTree) : t.natSize ≤ 1000000000000 → ∀ (A : Nat → Prop) (w : World) (us ps : Value), RepD A w (.slice 3 (t.users.map LUser.d)) us → RepD A w (.slice 3 (t.parts.map LTree.d)) ps →
    Calls Tryz.prog 35 #[.agg #[.string t.op, us, ps], .agg #[.string u.kind, .string u.id, .string u.rel]] w fun e w' => e = .returned (.int .i64 (t.count u)) ∧ Below w.heap.size w w' := by
  induction t using LTree.ind with
  | h t ih =>
  intro hn A w us ps hu hp
  have mixed : Tryz.prog.follows Departure.mixedOrders = true := by kernel_rfl
  obtain ⟨ua, uc, huf⟩ := hu.formM
  subst huf
  obtain ⟨pa, pc, hpf, hpl, hpk⟩ := tree_cells hp
  subst hpf
  have hB0 : Below w.heap.size w ((w.alloc (.cells #[.string t.op, .slice ua t.users.length uc, .slice pa t.parts.length pc] 32)).alloc (.cells #[.string u.kind, .string u.id, .string u.rel] 25)) := ((Below.refl _ w).alloc (Nat.le_refl _) _).alloc (by simp) _
  have hX0 : TBox ((w.alloc (.cells #[.string t.op, .slice ua t.users.length uc, .slice pa t.parts.length pc] 32)).alloc (.cells #[.string u.kind, .string u.id, .string u.rel] 25)) w.heap.size t ua uc pa pc := heap_alloc2 rfl
  have hbu : ((w.alloc (.cells #[.string t.op, .slice ua t.users.length uc, .slice pa t.parts.length pc] 32)).alloc (.cells #[.string u.kind, .string u.id, .string u.rel] 25)).heap[w.heap.size + 1]? = some (.cells #[.string u.kind, .string u.id, .string u.rel] 25) := heap_alloc_at (by simp)
  have hcn := law_names (hu.old hB0) (hp.old hB0) u
  have hcnt := t.count_eq u
  have hsum : ∀ k (hk : k < t.parts.length), ((t.parts.take (k + 1)).map (LTree.count u)).sum = ((t.parts.take k).map (LTree.count u)).sum + t.parts[k].count u := fun k hk => by
    rw [List.take_succ_eq_append_getElem hk, List.map_append, List.sum_append]; simp only [List.map_cons, List.map_nil, List.sum_cons, List.sum_nil, Nat.add_zero]
  have hle : ∀ k, ((t.parts.take k).map (LTree.count u)).sum ≤ (t.parts.map (LTree.count u)).sum := fun k => by
    have h3 : t.parts.map (LTree.count u) = (t.parts.take k).map (LTree.count u) ++ (t.parts.drop k).map (LTree.count u) := by rw [← List.map_append, List.take_append_drop]
    rw [h3, List.sum_append]
    omega
  have hend : ((t.parts.take t.parts.length).map (LTree.count u)).sum = (t.parts.map (LTree.count u)).sum := by rw [List.take_length]
  have hps : ∀ k (hk : k < t.parts.length), t.parts[k].natSize ≤ t.natSize := fun k hk => by
    have h1 := t.natSize_eq
    have h2 : t.parts.map LTree.natSize = (t.parts.take k).map LTree.natSize ++ (t.parts.drop k).map LTree.natSize := by rw [← List.map_append, List.take_append_drop]
    rw [h2, List.sum_append, List.drop_eq_getElem_cons hk] at h1
    simp only [List.map_cons, List.sum_cons] at h1
    omega
  have hcl := t.count_le u
  rw [hcnt] at hcl
  have ih2 : ∀ k (hk : k < t.parts.length), _ := fun k hk => ih t.parts[k] (List.getElem_mem hk) (Nat.le_trans (hps k hk) hn)
  obtain ⟨F, hF⟩ : ∃ f : Nat → Nat, ∀ k, ((t.parts.take k).map (LTree.count u)).sum = f k := ⟨fun k => _, fun k => rfl⟩
  have hF0 : F 0 = 0 := by rw [← hF]; simp
  simp only [hF] at hsum hend hle
  clear hF
  generalize hS : (t.parts.map (LTree.count u)).sum = S at *
  rw [hcnt]
  clear hcnt
  have HB0 := Lib.hid hB0; have HX0 := Lib.hid hX0; have HPK := Lib.hid hpk; have HIH := Lib.hid ih2; have HS := Lib.hid hsum; have HE := Lib.hid hend; have HF0 := Lib.hid hF0
  have HBU := Lib.hid hbu; have HCN := Lib.hid hcn; have HLE := Lib.hid hle
  clear hu hp hB0 hX0 hpk ih2 ih hsum hend hS hF0 hbu hcn hle hps
  obtain ⟨bit, hbit⟩ : ∃ x : Bool, x = decide (u ∈ t.users) := ⟨_, rfl⟩
  obtain ⟨z, hz⟩ : ∃ n : Nat, n = if bit then 1 else 0 := ⟨_, rfl⟩
  have hz2 : (if u ∈ t.users then 1 else 0) = z := by rw [hz, hbit]; by_cases h : u ∈ t.users <;> simp [h]
  rw [hz2] at hcl ⊢
  rw [← hbit] at HCN
  clear hbit hz2
  obtain ⟨x0, x1, x2⟩ := HX0.out.cells
  obtain ⟨c0, c1, c2⟩ := ucells (u := u) HBU.out
  go_enter Tryz.func35, Tryz.ntmps35
  go_wp2_with fail
  refine HCN.out.mono ?_
  rintro e w1 ⟨rfl, hb1⟩
  have hB1 := below_past HB0.out hb1
  have hX1 := HX0.out.old hb1
  have hU1 := (hb1.block _ (Array.getElem?_eq_some_iff.1 HBU.out).1).trans HBU.out
  have HB1 := Lib.hid hB1; have HX1 := Lib.hid hX1; have HU1 := Lib.hid hU1
  clear hb1 HB0 HX0 HBU HCN x0 x1 x2 c0 c1 c2 hB1 hX1 hU1
  have hgo : z ≤ 1 := by rw [hz]; split <;> omega
  have HSS := Lib.hid (show S + z ≤ 1000000000000 by omega)
  clear hcl hgo
  cases bit <;> simp only [Bool.false_eq_true, if_false, if_true] at hz
  all_goals
    have HZ := Lib.hid hz
    clear hz
    go_wp2
    go_loopw [5, 6] (fun n i wr => ∃ k : Nat, k ≤ t.parts.length ∧ i = .int .i64 k ∧ n = .int .i64 ((F k : Int) + z) ∧ Aside (Below w.heap.size w wr) ∧ Aside (TBox wr w.heap.size t ua uc pa pc) ∧ Aside (wr.heap[w.heap.size + 1]? = some (.cells #[.string u.kind, .string u.id, .string u.rel] 25))) (fun _ i _ => t.parts.length - (intOf i).toNat)
    case atStart => exact ⟨0, by omega, rfl, by rw [HF0.out, HZ.out]; rfl, ⟨HB1.out⟩, ⟨HX1.out⟩, ⟨HU1.out⟩⟩
    case round =>
      obtain ⟨k, hk, rfl, rfl, hB, hX, hU⟩ := hrel
      obtain ⟨x0, x1, x2⟩ := hX.out.cells
      obtain ⟨c0, c1, c2⟩ := ucells (u := u) hU.out
      by_cases hlt : k < t.parts.length
      · obtain ⟨b, off, xa, xc, ya, yc, rfl, e0, e1, e2, r1, r2⟩ := HPK.out wr hB.out k hlt
        have s1 := HS.out k hlt
        have s2 := HLE.out (k + 1)
        have s3 := HSS.out
        have hcall := HIH.out k hlt A (wr.drew) _ _ (r1.old ((Below.refl _ wr).drew)) (r2.old ((Below.refl _ wr).drew))
        generalize t.parts[k] = x at *
        generalize x.count u = q at *
        have hF1 : ((F (k + 1) : Nat) : Int) = F k + q := by omega
        have hFb : (F k : Int) + z + q ≤ 1000000000000 := by omega
        have HC := Lib.hid hcall; have HF1 := Lib.hid hF1
        clear hcall r1 r2 s1 s2 s3 hF1
        go_wp2_with fail
        go_region_law (first
          | (go_simp; go_at_call 35; refine (HC.out).mono ?_; rintro r w2 ⟨rfl, hb2⟩; try go_wp2_with fail))
        all_goals
          have hB2 := below_past hB.out.drew hb2
          have hX2 : TBox w2 w.heap.size t ua uc (some ⟨b, off, none⟩) pc := (hb2.block _ (Array.getElem?_eq_some_iff.1 hX.out).1).trans hX.out
          have hU2 := (hb2.block _ (Array.getElem?_eq_some_iff.1 hU.out).1).trans hU.out
          clear hb2
          go_wp2
          first
            | exact ⟨⟨k + 1, by omega, by go_num, by rw [HF1.out]; congr 1; omega, ⟨hB2⟩, ⟨hX2⟩, ⟨hU2⟩⟩, by simp [intOf] <;> omega⟩
            | (go_roundw
               case rel => exact ⟨k + 1, by omega, by go_num, by rw [HF1.out]; congr 1; omega, ⟨hB2⟩, ⟨hX2⟩, ⟨hU2⟩⟩
               case measure => simp [intOf]; omega)
      · have hkn : k = t.parts.length := by omega
        have he := HE.out
        rw [← hkn] at he
        have HEE := Lib.hid he
        clear he
        go_wp2
        go_ret
        exact ⟨ret_int (by rw [HEE.out]; omega), hB.out⟩
/-- Ways, opened. -/
theorem ways_cells {A : Nat → Prop} {w : World} {xs : List (List Nat)} {v : Value} (h : RepD A w (.slice 1 (xs.map wayD)) v) : ∃ a c, v = .slice a xs.length c ∧ xs.length ≤ 140737488355328 ∧ ∀ (W : World), Below w.heap.size w W → ∀ k (hk : k < xs.length), ∃ b off ra rc, a = some ⟨b, off, none⟩ ∧ W.cell? ⟨b, off + k, none⟩ = some (.slice ra xs[k].length rc) ∧ RepD A W (.slice 1 (xs[k].map natD)) (.slice ra xs[k].length rc) := by
  obtain ⟨a, c, us, rfl, _, hl, hk⟩ := h.rows
  refine ⟨a, c, rfl, hl, fun W hW k hlt => ?_⟩
  obtain ⟨b, off, ha, _, hj⟩ := hk k hlt
  obtain ⟨c0, r0⟩ := hj 0 (by omega)
  have r1 : RepD A w (.slice 1 (xs[k].map natD)) (us k 0) := r0
  obtain ⟨ra, rc, _, e, _⟩ := r1.rows
  rw [e] at r1 c0
  rw [Nat.mul_one, Nat.add_zero] at c0
  exact ⟨b, off, ra, rc, ha, (hW.cell (p := ⟨b, off + k, none⟩) (World.block_lt_of_cell? w _ c0)).trans c0, r1.old hW⟩
/-- A node below, with the way to it. -/
structure NdSt (A : Nat → Prop) (w W : World) (nb : Nat) (n : LTree) (q : List Nat) (u : LUser) : Prop where
  box : ∃ s1 s2 : SlV, W.heap[nb]? = some (.cells #[.string n.op, .slice s1.a s1.n s1.c, .slice s2.a s2.n s2.c] 32) ∧ RepD A w (.slice 3 (n.users.map LUser.d)) (.slice s1.a s1.n s1.c) ∧ RepD A w (.slice 3 (n.parts.map LTree.d)) (.slice s2.a s2.n s2.c)
  node : ∃ z, n.node q = some z ∧ u ∈ z.users
theorem NdSt.step {A : Nat → Prop} {w W : World} {nb : Nat} {n : LTree} {i : Nat} {q : List Nat} {u : LUser} (h : NdSt A w W nb n (i :: q) u) : ∃ (s1 : SlV) (pc : Nat) (x : LTree) (b off : Nat) (y1 y2 : SlV), W.heap[nb]? = some (.cells #[.string n.op, .slice s1.a s1.n s1.c, .slice (some ⟨b, off, none⟩) n.parts.length pc] 32) ∧ i < n.parts.length ∧
    w.cell? ⟨b, off + i * 3, none⟩ = some (.string x.op) ∧ w.cell? ⟨b, off + i * 3 + 1, none⟩ = some (.slice y1.a y1.n y1.c) ∧ w.cell? ⟨b, off + i * 3 + 2, none⟩ = some (.slice y2.a y2.n y2.c) ∧
      ∀ W' : World, W'.heap[nb]? = some (.cells #[.string x.op, .slice y1.a y1.n y1.c, .slice y2.a y2.n y2.c] 32) → NdSt A w W' nb x q u := by
  obtain ⟨⟨s1, s2, hb, r1, r2⟩, z, hz, hu⟩ := h
  obtain ⟨pa, pc, e, _, hk⟩ := tree_cells r2
  have hi : i < n.parts.length := by
    unfold LTree.node at hz
    by_cases hi : i < n.parts.length
    · exact hi
    · rw [List.getElem?_eq_none (by omega)] at hz; cases hz
  unfold LTree.node at hz
  rw [List.getElem?_eq_getElem hi] at hz
  obtain ⟨b, off, xa, xc, ya, yc, rfl, c0, c1, c2, q1, q2⟩ := hk w (Below.refl _ _) i hi
  rw [e] at hb
  exact ⟨s1, pc, n.parts[i], b, off, ⟨xa, _, xc⟩, ⟨ya, _, yc⟩, hb, hi, c0, c1, c2, fun W' hW' => ⟨⟨⟨xa, _, xc⟩, ⟨ya, _, yc⟩, hW', q1, q2⟩, z, hz, hu⟩⟩
theorem NdSt.last {A : Nat → Prop} {w W : World} {nb : Nat} {n : LTree} {u : LUser} (h : NdSt A w W nb n [] u) : u ∈ n.users := by
  obtain ⟨_, z, hz, hu⟩ := h
  unfold LTree.node at hz
  cases hz
  exact hu
set_option maxRecDepth 100000 in
set_option maxHeartbeats 8000000 in
theorem why_walk {w : World} {t : LTree} {u : LUser} {v1 v2 : Value} (hw : WordsAt w) (h1 : RepD (fun _ => True) w (.slice 3 (t.users.map LUser.d)) v1) (h2 : RepD (fun _ => True) w (.slice 3 (t.parts.map LTree.d)) v2) (ha : t.natSize ≤ 1048576) :
    Calls Tryz.prog 5 #[.agg #[.string t.op, v1, v2], u.val] w fun e w' => e = .returned (.bool true) ∧ Below w.heap.size w w' := by
  have mixed : Tryz.prog.follows Departure.mixedOrders = true := by kernel_rfl
  obtain ⟨a1, c1, e1⟩ := h1.formM
  obtain ⟨a2, c2, e2⟩ := h2.formM
  subst e1 e2
  obtain ⟨s1, hs1⟩ : ∃ s : SlV, s = ⟨a1, t.users.length, c1⟩ := ⟨_, rfl⟩
  obtain ⟨s2, hs2⟩ : ∃ s : SlV, s = ⟨a2, t.parts.length, c2⟩ := ⟨_, rfl⟩
  have q1 : Value.slice a1 t.users.length c1 = .slice s1.a s1.n s1.c := by rw [hs1]
  have q2 : Value.slice a2 t.parts.length c2 = .slice s2.a s2.n s2.c := by rw [hs2]
  rw [q1] at h1 ⊢
  rw [q2] at h2 ⊢
  clear q1 q2 hs1 hs2
  have st0 := TuSt.start (u := u) hw h1 h2
  have ST := Lib.hid st0
  have H1 := Lib.hid h1; have H2 := Lib.hid h2
  clear st0 hw h1 h2
  have f1 : ∀ W, TuSt w W t u s1 s2 → Calls Tryz.prog 26 #[.agg #[.string t.op, .slice s1.a s1.n s1.c, .slice s2.a s2.n s2.c], .int .i64 12] W fun e W' => e = .returned (.bool (LTree.few 12 t)) ∧ TuSt w W' t u s1 s2 := fun W h => tu_Few h 12 (by omega)
  have f3 := fun W (h : TuSt w W t u s1 s2) => tu_Size h ha
  generalize LTree.few 12 t = g1 at *
  obtain ⟨n1, hn1⟩ : ∃ n, n = t.natSize := ⟨_, rfl⟩
  rw [← hn1] at f3 ha
  have F1 := Lib.hid f1; have F3 := Lib.hid f3
  have f2 := fun (W : World) (h : TuSt w W t u s1 s2) => expand_Why h.r1 h.r2 (by rw [← hn1]; omega) u
  have hcn := law_count u t (by rw [← hn1]; omega)
  have hwn : ∀ k (hk : k < (t.ways u).length), ∃ n, t.node ((t.ways u)[k]'hk) = some n ∧ u ∈ n.users := fun k hk => LTree.ways_node u t _ (List.getElem_mem hk)
  have hwa : ∀ k (hk : k + 1 < (t.ways u).length), LTree.aheadN ((t.ways u)[k]'(Nat.lt_of_succ_lt hk)) ((t.ways u)[k + 1]'hk) = true := fun k hk => (List.pairwise_iff_getElem.1 (LTree.ways_ahead u t)) k (k + 1) (by omega) hk (by omega)
  have hwl2 := LTree.ways_length u t
  generalize t.ways u = L at *
  generalize t.count u = cn at *
  subst hwl2
  have HCN := Lib.hid hcn; have HWN := Lib.hid hwn; have HWA := Lib.hid hwa; have F2 := Lib.hid f2
  clear hcn hwn hwa hn1 f1 f2 f3
  unfold LUser.val
  by_cases hgood : g1 = true ∧ n1 ≤ 300
  · obtain ⟨rfl, k1⟩ := hgood
    go_enter Tryz.func5, Tryz.ntmps5
    go_wp2_with (first
      | (go_at_call 16; with_reducible refine (tu_awake ST.out).mono ?_; rintro r w3 ⟨rfl, hx⟩; clear ST; have ST := Lib.hid hx; obtain ⟨⟨z0, z1, z2⟩, z6, z7, z8⟩ := hx.cells; clear hx)
      | (go_at_call 26; with_reducible refine (F1.out _ ST.out).mono ?_; rintro r w4 ⟨rfl, hx⟩; clear ST; have ST := Lib.hid hx; obtain ⟨⟨z0, z1, z2⟩, z6, z7, z8⟩ := hx.cells; clear hx)
      | (go_at_call 27; with_reducible refine (F3.out _ ST.out).mono ?_; rintro r w6 ⟨rfl, hx⟩; clear ST; have ST := Lib.hid hx; obtain ⟨⟨z0, z1, z2⟩, z6, z7, z8⟩ := hx.cells; clear hx)
      | (go_at_call 32; with_reducible refine (F2.out _ ST.out).mono ?_; rintro r w7 ⟨vw, rfl, hv, hx⟩; obtain ⟨wa, wc, rfl, hwl, hwk⟩ := ways_cells hv; have hx2 := ST.out.next hx; clear ST; have ST := Lib.hid hx2; have HWK := Lib.hid hwk; obtain ⟨⟨z0, z1, z2⟩, z6, z7, z8⟩ := hx2.cells; clear hx hx2 hwk hv))
    have hszw : w.heap.size + 1 < w7.heap.size := (Array.getElem?_eq_some_iff.1 ST.out.bu).1
    clear F1 F3 k1
    go_loopw [6] (fun i wr => ∃ k : Nat, k ≤ L.length ∧ i = .int .i64 k ∧ Aside (Below w7.heap.size w7 wr)) (fun i _ => L.length - (intOf i).toNat)
    case atStart => exact ⟨0, by omega, rfl, ⟨Below.refl _ _⟩⟩
    case round =>
      obtain ⟨k, hk, rfl, hB⟩ := hrel
      have ST1 := Lib.hid (ST.out.next hB.out)
      obtain ⟨⟨y0, y1, y2⟩, y6, y7, y8⟩ := ST1.out.cells
      by_cases hlt : k < L.length
      · obtain ⟨wb, woff, ra, rc, rfl, d0, rd⟩ := HWK.out wr hB.out k hlt
        have hsr := hB.out.size
        obtain ⟨_, _, er, hql, hrk⟩ := way_cells rd
        injection er with er1 _ er3
        subst er1 er3
        have HRD := Lib.hid rd; have HRK := Lib.hid hrk
        have hn0 : NdSt (fun _ => True) w (wr.alloc (.cells #[.string t.op, .slice s1.a s1.n s1.c, .slice s2.a s2.n s2.c] 32)) wr.heap.size t (L[k].drop 0) u := ⟨⟨s1, s2, heap_alloc_at rfl, H1.out, H2.out⟩, by simpa using HWN.out k hlt⟩
        have HN0 := Lib.hid hn0
        have hb0 : Below wr.heap.size wr (wr.alloc (.cells #[.string t.op, .slice s1.a s1.n s1.c, .slice s2.a s2.n s2.c] 32)) := (Below.refl _ wr).alloc (Nat.le_refl _) _
        have HBI := Lib.hid hb0
        obtain ⟨q, hq⟩ : ∃ q, q = L[k] := ⟨_, rfl⟩
        rw [← hq] at d0 hql
        rw [← hq] at HRD HRK HN0
        have HQ := Lib.hid hq
        clear rd hrk hn0 hb0 hq
        clear z0 z1 z2 z6 z7 z8
        go_wp2
        go_loopw [8] (fun i W => ∃ (j : Nat) (n : LTree), j ≤ q.length ∧ i = .int .i64 j ∧ Aside (Below wr.heap.size wr W) ∧ Aside (NdSt (fun _ => True) w W wr.heap.size n (q.drop j) u)) (fun i _ => q.length - (intOf i).toNat)
        case atStart => exact ⟨0, t, by omega, rfl, ⟨HBI.out⟩, ⟨HN0.out⟩⟩
        case round =>
          obtain ⟨j, n, hj, rfl, hI, hN⟩ := hrel
          obtain ⟨wq, rfl⟩ : ∃ x, x = wr := ⟨wr, rfl⟩
          have hB1 := hB.out.trans (hI.out.mono hsr)
          have d1 := (hI.out.cell (p := ⟨wb, woff + k, none⟩) (World.block_lt_of_cell? _ _ d0)).trans d0
          have ST2 := Lib.hid (ST.out.next hB1)
          obtain ⟨⟨z0, z1, z2⟩, z6, z7, z8⟩ := ST2.out.cells
          have HB1 := Lib.hid hB1
          clear hB1
          by_cases hjl : j < q.length
          · obtain ⟨b2, off2, rfl, f0⟩ := HRK.out wq hI.out j hjl
            have hd : q.drop j = q[j] :: q.drop (j + 1) := List.drop_eq_getElem_cons hjl
            have hN1 := hN.out
            rw [hd] at hN1
            generalize q[j] = i at *
            obtain ⟨m1, pc, x, b, off, m2, m3, hbx, hi, g0, g1, g2, hnx⟩ := hN1.step
            have hBw : Below w.heap.size w wq := ST2.out.below
            have g0' := (hBw.cell (p := ⟨b, off + i * 3, none⟩) (World.block_lt_of_cell? _ _ g0)).trans g0
            have g1' := (hBw.cell (p := ⟨b, off + i * 3 + 1, none⟩) (World.block_lt_of_cell? _ _ g1)).trans g1
            have g2' := (hBw.cell (p := ⟨b, off + i * 3 + 2, none⟩) (World.block_lt_of_cell? _ _ g2)).trans g2
            have n2 : wq.cell? ⟨wr.heap.size, 2, none⟩ = some (.slice (some ⟨b, off, none⟩) n.parts.length pc) := by simp [World.cell?, hbx]
            have n0 : wq.cell? ⟨wr.heap.size, 0, none⟩ = some (.string n.op) := by simp [World.cell?, hbx]
            have n1' : wq.cell? ⟨wr.heap.size, 1, none⟩ = some (.slice m1.a m1.n m1.c) := by simp [World.cell?, hbx]
            have fz : ∀ j, j < 3 → wq.frozen? ⟨wr.heap.size, j, none⟩ = false := fun j _ => by simp [World.frozen?, hbx]
            have fz0 := fz 0 (by omega); have fz1 := fz 1 (by omega); have fz2 := fz 2 (by omega)
            have hlow : ((i : Int) < 0) = False := eq_false (by omega)
            have hhigh : ((n.parts.length : Int) ≤ i) = False := eq_false (by omega)
            have HNX := Lib.hid hnx; have HBX := Lib.hid hbx
            clear hd hN1 hN g0 g1 g2 hnx hbx hBw fz z0 z1 z2 z6 z7 z8
            go_wp2
            go_region_o
            go_wp2
            go_region_o
            have hbw := setCells_block wr.heap.size 32 (0, 0) [.string x.op, .slice m2.a m2.n m2.c, .slice m3.a m3.n m3.c] 0 wq _ HBX.out
            have hN5 := HNX.out (((wq.setCells wr.heap.size 0 [.string x.op, .slice m2.a m2.n m2.c, .slice m3.a m3.n m3.c]).drew).drew) hbw
            have hB5 : Below wr.heap.size wr (((wq.setCells wr.heap.size 0 [.string x.op, .slice m2.a m2.n m2.c, .slice m3.a m3.n m3.c]).drew).drew) := ((hI.out.trans (below_setCells (Nat.le_refl _) _ 0 wq hI.out.size)).drew).drew
            have HN5 := Lib.hid hN5; have HB5 := Lib.hid hB5
            clear hbw hN5 hB5
            go_wp2
            go_roundw
            case rel => exact ⟨j + 1, x, by omega, by go_num, ⟨HB5.out⟩, ⟨HN5.out⟩⟩
            case measure => simp [intOf]; omega
          · obtain rfl : j = q.length := by omega
            have hlast := hN.out
            rw [List.drop_length] at hlast
            have hmem := hlast.last
            obtain ⟨⟨m1, m2, hbx, r1, r2⟩, _⟩ := hlast
            obtain ⟨n0, n1', n2⟩ := tcells hbx
            have hnm := law_names (r1.old ST2.out.below.drew) (r2.old ST2.out.below.drew) u
            rw [decide_eq_true hmem] at hnm
            have HNM := Lib.hid hnm
            have hkp : ∀ W, Below wq.heap.size wq W → (W.cell? ⟨wr.heap.size, 0, none⟩ = some (.string n.op) ∧ W.cell? ⟨wr.heap.size, 1, none⟩ = some (.slice m1.a m1.n m1.c) ∧ W.cell? ⟨wr.heap.size, 2, none⟩ = some (.slice m2.a m2.n m2.c)) ∧ (W.cell? ⟨w.heap.size + 1, 0, none⟩ = some (.string u.kind) ∧ W.cell? ⟨w.heap.size + 1, 1, none⟩ = some (.string u.id) ∧ W.cell? ⟨w.heap.size + 1, 2, none⟩ = some (.string u.rel)) := fun W hW => ⟨tcells ((hW.block _ (Array.getElem?_eq_some_iff.1 hbx).1).trans hbx), (ST2.out.next hW).cells.2⟩
            have HKP := Lib.hid hkp
            clear hkp hnm hmem hbx r1 r2 hN
            by_cases hk0 : k = 0
            · subst hk0
              rw [Nat.add_zero] at d1
              go_wp2
              refine wp_region_held_drew (S := (fun W => (W.cell? ⟨wr.heap.size, 0, none⟩ = some (.string n.op) ∧ W.cell? ⟨wr.heap.size, 1, none⟩ = some (.slice m1.a m1.n m1.c) ∧ W.cell? ⟨wr.heap.size, 2, none⟩ = some (.slice m2.a m2.n m2.c)) ∧ (W.cell? ⟨w.heap.size + 1, 0, none⟩ = some (.string u.kind) ∧ W.cell? ⟨w.heap.size + 1, 1, none⟩ = some (.string u.id) ∧ W.cell? ⟨w.heap.size + 1, 2, none⟩ = some (.string u.rel)))) (by kernel_rfl) (HKP.out _ (Below.refl _ _).drew) (fun hHeld => ?_)
              refine wpAnyH_take (i := 0) (v := ?_) rfl (by kernel_rfl) (by kernel_rfl) (by kernel_rfl) (fun _ _ _ h => h) (Or.inl ⟨by rfl, ?_⟩) (by assumption) ?_
              rotate_left
              · (intro wz hSw; (try dsimp only at hSw); go_simp; try with_reducible rfl)
              try simp only [Act.put, List.setIfInBounds_toArray, List.set_cons_zero, List.set_cons_succ, List.getElem_toArray, List.getElem_cons_succ, List.getElem_cons_zero, List.getElem?_toArray, List.getElem?_cons_zero, List.getElem?_cons_succ]
              refine wpAnyH_take (i := 1) (v := ?_) rfl (by kernel_rfl) (by kernel_rfl) (by kernel_rfl) (fun _ _ _ h => h) (Or.inl ⟨by rfl, ?_⟩) (by assumption) ?_
              rotate_left
              · (intro wz hSw; (try dsimp only at hSw); go_simp; try with_reducible rfl)
              try simp only [Act.put, List.setIfInBounds_toArray, List.set_cons_zero, List.set_cons_succ, List.getElem_toArray, List.getElem_cons_succ, List.getElem_cons_zero, List.getElem?_toArray, List.getElem?_cons_zero, List.getElem?_cons_succ]
              refine wpAnyH_ready (rs := [2]) (by kernel_rfl) (by simp) ?_
              refine AllReadyH.cons rfl (fun K hK => ?_) AllReadyH.nil
              go_simp
              go_at_call 33
              refine HNM.out.mono ?_
              rintro r w8 ⟨rfl, hb8⟩
              have hbq := Lib.hid (below_past (Below.refl _ wq).drew hb8)
              clear hb8
              try go_wp2_with fail
              refine hK.out _ _ (HKP.out _ hbq.out) (fun hHeld2 => ?_)
              clear hK K hHeld
              try simp only [Act.put, List.setIfInBounds_toArray, List.set_cons_zero, List.set_cons_succ, List.getElem_toArray, List.getElem_cons_succ, List.getElem_cons_zero, List.getElem?_toArray, List.getElem?_cons_zero, List.getElem?_cons_succ]
              refine wpAnyH_take (i := 3) (v := ?_) rfl (by kernel_rfl) (by kernel_rfl) (by kernel_rfl) (fun _ _ _ h => h) (Or.inl ⟨by rfl, ?_⟩) (by assumption) ?_
              rotate_left
              · (intro wz hSw; (try dsimp only at hSw); go_simp; try with_reducible rfl)
              try simp only [Act.put, List.setIfInBounds_toArray, List.set_cons_zero, List.set_cons_succ, List.getElem_toArray, List.getElem_cons_succ, List.getElem_cons_zero, List.getElem?_toArray, List.getElem?_cons_zero, List.getElem?_cons_succ]
              refine wpAnyH_take (i := 4) (v := ?_) rfl (by kernel_rfl) (by kernel_rfl) (by kernel_rfl) (fun _ _ _ h => h) (Or.inl ⟨by rfl, ?_⟩) (by assumption) ?_
              rotate_left
              · (intro wz hSw; (try dsimp only at hSw); go_simp; try with_reducible rfl)
              try simp only [Act.put, List.setIfInBounds_toArray, List.set_cons_zero, List.set_cons_succ, List.getElem_toArray, List.getElem_cons_succ, List.getElem_cons_zero, List.getElem?_toArray, List.getElem?_cons_zero, List.getElem?_cons_succ]
              refine wpAnyH_take (i := 5) (v := ?_) rfl (by kernel_rfl) (by kernel_rfl) (by kernel_rfl) (fun _ _ _ h => h) (Or.inl ⟨by rfl, ?_⟩) (by assumption) ?_
              rotate_left
              · (intro wz hSw; (try dsimp only at hSw); go_simp; try with_reducible rfl)
              try simp only [Act.put, List.setIfInBounds_toArray, List.set_cons_zero, List.set_cons_succ, List.getElem_toArray, List.getElem_cons_succ, List.getElem_cons_zero, List.getElem?_toArray, List.getElem?_cons_zero, List.getElem?_cons_succ]
              refine wpAnyH_take (i := 6) (v := ?_) rfl (by kernel_rfl) (by kernel_rfl) (by kernel_rfl) (fun _ _ _ h => h) (Or.inl ⟨by rfl, ?_⟩) (by assumption) ?_
              rotate_left
              · (intro wz hSw; (try dsimp only at hSw); go_simp; try with_reducible rfl)
              try simp only [Act.put, List.setIfInBounds_toArray, List.set_cons_zero, List.set_cons_succ, List.getElem_toArray, List.getElem_cons_succ, List.getElem_cons_zero, List.getElem?_toArray, List.getElem?_cons_zero, List.getElem?_cons_succ]
              refine wpAnyH_take (i := 7) (v := ?_) rfl (by kernel_rfl) (by kernel_rfl) (by kernel_rfl) (fun _ _ _ h => h) (Or.inl ⟨by rfl, ?_⟩) (by assumption) ?_
              rotate_left
              · (intro wz hSw; (try dsimp only at hSw); go_simp; try with_reducible rfl)
              try simp only [Act.put, List.setIfInBounds_toArray, List.set_cons_zero, List.set_cons_succ, List.getElem_toArray, List.getElem_cons_succ, List.getElem_cons_zero, List.getElem?_toArray, List.getElem?_cons_zero, List.getElem?_cons_succ]
              refine wpAnyH_take (i := 8) (v := undef) rfl (by kernel_rfl) (by kernel_rfl) (by kernel_rfl) (fun _ _ _ h => h) (Or.inr ⟨by rfl, rfl⟩) (by assumption) ?_
              try simp only [Act.put, List.setIfInBounds_toArray, List.set_cons_zero, List.set_cons_succ, List.getElem_toArray, List.getElem_cons_succ, List.getElem_cons_zero, List.getElem?_toArray, List.getElem?_cons_zero, List.getElem?_cons_succ]
              refine wpAnyH_take (i := 9) (v := undef) rfl (by kernel_rfl) (by kernel_rfl) (by kernel_rfl) (fun _ _ _ h => h) (Or.inr ⟨by rfl, rfl⟩) (by assumption) ?_
              try simp only [Act.put, List.setIfInBounds_toArray, List.set_cons_zero, List.set_cons_succ, List.getElem_toArray, List.getElem_cons_succ, List.getElem_cons_zero, List.getElem?_toArray, List.getElem?_cons_zero, List.getElem?_cons_succ]
              refine wpAnyH_take (i := 10) (v := undef) rfl (by kernel_rfl) (by kernel_rfl) (by kernel_rfl) (fun _ _ _ h => h) (Or.inr ⟨by rfl, rfl⟩) (by assumption) ?_
              try simp only [Act.put, List.setIfInBounds_toArray, List.set_cons_zero, List.set_cons_succ, List.getElem_toArray, List.getElem_cons_succ, List.getElem_cons_zero, List.getElem?_toArray, List.getElem?_cons_zero, List.getElem?_cons_succ]
              refine wpAnyH_take (i := 11) (v := undef) rfl (by kernel_rfl) (by kernel_rfl) (by kernel_rfl) (fun _ _ _ h => h) (Or.inr ⟨by rfl, rfl⟩) (by assumption) ?_
              try simp only [Act.put, List.setIfInBounds_toArray, List.set_cons_zero, List.set_cons_succ, List.getElem_toArray, List.getElem_cons_succ, List.getElem_cons_zero, List.getElem?_toArray, List.getElem?_cons_zero, List.getElem?_cons_succ]
              refine wpAnyH_take (i := 12) (v := undef) rfl (by kernel_rfl) (by kernel_rfl) (by kernel_rfl) (fun _ _ _ h => h) (Or.inr ⟨by rfl, rfl⟩) (by assumption) ?_
              try simp only [Act.put, List.setIfInBounds_toArray, List.set_cons_zero, List.set_cons_succ, List.getElem_toArray, List.getElem_cons_succ, List.getElem_cons_zero, List.getElem?_toArray, List.getElem?_cons_zero, List.getElem?_cons_succ]
              refine wpAnyH_take (i := 13) (v := undef) rfl (by kernel_rfl) (by kernel_rfl) (by kernel_rfl) (fun _ _ _ h => h) (Or.inr ⟨by rfl, rfl⟩) (by assumption) ?_
              try simp only [Act.put, List.setIfInBounds_toArray, List.set_cons_zero, List.set_cons_succ, List.getElem_toArray, List.getElem_cons_succ, List.getElem_cons_zero, List.getElem?_toArray, List.getElem?_cons_zero, List.getElem?_cons_succ]
              refine wpAnyH_take (i := 14) (v := undef) rfl (by kernel_rfl) (by kernel_rfl) (by kernel_rfl) (fun _ _ _ h => h) (Or.inr ⟨by rfl, rfl⟩) (by assumption) ?_
              try simp only [Act.put, List.setIfInBounds_toArray, List.set_cons_zero, List.set_cons_succ, List.getElem_toArray, List.getElem_cons_succ, List.getElem_cons_zero, List.getElem?_toArray, List.getElem?_cons_zero, List.getElem?_cons_succ]
              refine wpAnyH_take (i := 15) (v := undef) rfl (by kernel_rfl) (by kernel_rfl) (by kernel_rfl) (fun _ _ _ h => h) (Or.inr ⟨by rfl, rfl⟩) (by assumption) ?_
              try simp only [Act.put, List.setIfInBounds_toArray, List.set_cons_zero, List.set_cons_succ, List.getElem_toArray, List.getElem_cons_succ, List.getElem_cons_zero, List.getElem?_toArray, List.getElem?_cons_zero, List.getElem?_cons_succ]
              refine wpAnyH_take (i := 16) (v := undef) rfl (by kernel_rfl) (by kernel_rfl) (by kernel_rfl) (fun _ _ _ h => h) (Or.inr ⟨by rfl, rfl⟩) (by assumption) ?_
              try simp only [Act.put, List.setIfInBounds_toArray, List.set_cons_zero, List.set_cons_succ, List.getElem_toArray, List.getElem_cons_succ, List.getElem_cons_zero, List.getElem?_toArray, List.getElem?_cons_zero, List.getElem?_cons_succ]
              refine wpAnyH_take (i := 17) (v := undef) rfl (by kernel_rfl) (by kernel_rfl) (by kernel_rfl) (fun _ _ _ h => h) (Or.inr ⟨by rfl, rfl⟩) (by assumption) ?_
              try simp only [Act.put, List.setIfInBounds_toArray, List.set_cons_zero, List.set_cons_succ, List.getElem_toArray, List.getElem_cons_succ, List.getElem_cons_zero, List.getElem?_toArray, List.getElem?_cons_zero, List.getElem?_cons_succ]
              refine wpAnyH_take (i := 18) (v := undef) rfl (by kernel_rfl) (by kernel_rfl) (by kernel_rfl) (fun _ _ _ h => h) (Or.inr ⟨by rfl, rfl⟩) (by assumption) ?_
              try simp only [Act.put, List.setIfInBounds_toArray, List.set_cons_zero, List.set_cons_succ, List.getElem_toArray, List.getElem_cons_succ, List.getElem_cons_zero, List.getElem?_toArray, List.getElem?_cons_zero, List.getElem?_cons_succ]
              refine wpAnyH_take (i := 19) (v := ?_) rfl (by kernel_rfl) (by kernel_rfl) (by kernel_rfl) (fun _ _ _ h => h) (Or.inl ⟨by rfl, ?_⟩) (by assumption) ?_
              rotate_left
              · (intro wz hSw; (try dsimp only at hSw); go_simp; try with_reducible rfl)
              try simp only [Act.put, List.setIfInBounds_toArray, List.set_cons_zero, List.set_cons_succ, List.getElem_toArray, List.getElem_cons_succ, List.getElem_cons_zero, List.getElem?_toArray, List.getElem?_cons_zero, List.getElem?_cons_succ]
              refine wpAnyH_take (i := 20) (v := ?_) rfl (by kernel_rfl) (by kernel_rfl) (by kernel_rfl) (fun _ _ _ h => h) (Or.inl ⟨by rfl, ?_⟩) (by assumption) ?_
              rotate_left
              · (intro wz hSw; (try dsimp only at hSw); go_simp; try with_reducible rfl)
              try simp only [Act.put, List.setIfInBounds_toArray, List.set_cons_zero, List.set_cons_succ, List.getElem_toArray, List.getElem_cons_succ, List.getElem_cons_zero, List.getElem?_toArray, List.getElem?_cons_zero, List.getElem?_cons_succ]
              refine wpAnyH_done (by kernel_rfl) ?_ _
              all_goals
                have HB8 := Lib.hid (HB1.out.trans (hbq.out.mono HB1.out.size))
                go_wp2
                go_roundw
                case rel => exact ⟨0 + 1, by omega, by go_num, ⟨HB8.out⟩⟩
                case measure => simp [intOf]; omega
            · obtain ⟨k', rfl⟩ : ∃ k', k = k' + 1 := ⟨k - 1, by omega⟩
              obtain ⟨_, _, pa, pc, eb, dp, rp⟩ := HWK.out wq HB1.out k' (by omega)
              injection eb with eb
              injection eb with eb1 eb2
              subst eb1 eb2
              have hah : ∀ W, Below wq.heap.size wq W → Calls Tryz.prog 34 #[.slice pa L[k'].length pc, .slice ra q.length rc] W fun e W' => e = .returned (.bool true) ∧ Below W.heap.size W W' := fun W hW => by
                have h := law_ahead (rp.old hW) ((HRD.out.old hI.out).old hW)
                rw [HQ.out, HWA.out k' hlt] at h
                rw [HQ.out]
                exact h
              have hkp : ∀ W, Below wq.heap.size wq W → W.cell? ⟨wb, woff + k', none⟩ = some (.slice pa L[k'].length pc) ∧ W.cell? ⟨wb, woff + (k' + 1), none⟩ = some (.slice ra q.length rc) := fun W hW => ⟨(hW.cell (World.block_lt_of_cell? _ _ dp)).trans dp, (hW.cell (World.block_lt_of_cell? _ _ d1)).trans d1⟩
              have HAH := Lib.hid hah; have HKP2 := Lib.hid hkp
              clear hah rp hkp
              have hll : L.length ≤ 140737488355328 := hwl
              have q0 : (0 : Int) ≤ k' := by omega
              have q1 : (k' : Int) < L.length := by omega
              have q2 : (0 : Int) ≤ (k' : Int) + 1 := by omega
              have q3 : (k' : Int) + 1 < L.length := by omega
              have q4 : IntKind.i64.wrap (k' : Int) = (k' : Int) := IntWalk.i64_in _ (by omega)
              have q5 : ((k' : Int) + 1).toNat = k' + 1 := by omega
              have q6 : (k' : Int) + 1 - 1 = k' := by omega
              go_wp2
              refine wp_region_held_drew (S := (fun W => ((W.cell? ⟨wr.heap.size, 0, none⟩ = some (.string n.op) ∧ W.cell? ⟨wr.heap.size, 1, none⟩ = some (.slice m1.a m1.n m1.c) ∧ W.cell? ⟨wr.heap.size, 2, none⟩ = some (.slice m2.a m2.n m2.c)) ∧ (W.cell? ⟨w.heap.size + 1, 0, none⟩ = some (.string u.kind) ∧ W.cell? ⟨w.heap.size + 1, 1, none⟩ = some (.string u.id) ∧ W.cell? ⟨w.heap.size + 1, 2, none⟩ = some (.string u.rel))) ∧ W.cell? ⟨wb, woff + k', none⟩ = some (.slice pa L[k'].length pc) ∧ W.cell? ⟨wb, woff + (k' + 1), none⟩ = some (.slice ra q.length rc))) (by kernel_rfl) ⟨HKP.out _ (Below.refl _ _).drew, HKP2.out _ (Below.refl _ _).drew⟩ (fun hHeld => ?_)
              refine wpAnyH_take (i := 0) (v := ?_) rfl (by kernel_rfl) (by kernel_rfl) (by kernel_rfl) (fun _ _ _ h => h) (Or.inl ⟨by rfl, ?_⟩) (by assumption) ?_
              rotate_left
              · (intro wz hSw; (try dsimp only at hSw); go_simp; try with_reducible rfl)
              try simp only [Act.put, List.setIfInBounds_toArray, List.set_cons_zero, List.set_cons_succ, List.getElem_toArray, List.getElem_cons_succ, List.getElem_cons_zero, List.getElem?_toArray, List.getElem?_cons_zero, List.getElem?_cons_succ]
              refine wpAnyH_take (i := 1) (v := ?_) rfl (by kernel_rfl) (by kernel_rfl) (by kernel_rfl) (fun _ _ _ h => h) (Or.inl ⟨by rfl, ?_⟩) (by assumption) ?_
              rotate_left
              · (intro wz hSw; (try dsimp only at hSw); go_simp; try with_reducible rfl)
              try simp only [Act.put, List.setIfInBounds_toArray, List.set_cons_zero, List.set_cons_succ, List.getElem_toArray, List.getElem_cons_succ, List.getElem_cons_zero, List.getElem?_toArray, List.getElem?_cons_zero, List.getElem?_cons_succ]
              refine wpAnyH_ready (rs := [2]) (by kernel_rfl) (by simp) ?_
              refine AllReadyH.cons rfl (fun K hK => ?_) AllReadyH.nil
              go_simp
              go_at_call 33
              refine HNM.out.mono ?_
              rintro r w8 ⟨rfl, hb8⟩
              have HBQ := Lib.hid (below_past (Below.refl _ wq).drew hb8)
              clear hb8
              try go_wp2_with fail
              refine hK.out _ _ ⟨HKP.out _ HBQ.out, HKP2.out _ HBQ.out⟩ (fun hHeld2 => ?_)
              clear hK K hHeld
              try simp only [Act.put, List.setIfInBounds_toArray, List.set_cons_zero, List.set_cons_succ, List.getElem_toArray, List.getElem_cons_succ, List.getElem_cons_zero, List.getElem?_toArray, List.getElem?_cons_zero, List.getElem?_cons_succ]
              refine wpAnyH_take (i := 3) (v := ?_) rfl (by kernel_rfl) (by kernel_rfl) (by kernel_rfl) (fun _ _ _ h => h) (Or.inl ⟨by rfl, ?_⟩) (by assumption) ?_
              rotate_left
              · (intro wz hSw; (try dsimp only at hSw); go_simp; try with_reducible rfl)
              try simp only [Act.put, List.setIfInBounds_toArray, List.set_cons_zero, List.set_cons_succ, List.getElem_toArray, List.getElem_cons_succ, List.getElem_cons_zero, List.getElem?_toArray, List.getElem?_cons_zero, List.getElem?_cons_succ]
              refine wpAnyH_take (i := 4) (v := ?_) rfl (by kernel_rfl) (by kernel_rfl) (by kernel_rfl) (fun _ _ _ h => h) (Or.inl ⟨by rfl, ?_⟩) (by assumption) ?_
              rotate_left
              · (intro wz hSw; (try dsimp only at hSw); go_simp; try with_reducible rfl)
              try simp only [Act.put, List.setIfInBounds_toArray, List.set_cons_zero, List.set_cons_succ, List.getElem_toArray, List.getElem_cons_succ, List.getElem_cons_zero, List.getElem?_toArray, List.getElem?_cons_zero, List.getElem?_cons_succ]
              refine wpAnyH_take (i := 5) (v := ?_) rfl (by kernel_rfl) (by kernel_rfl) (by kernel_rfl) (fun _ _ _ h => h) (Or.inl ⟨by rfl, ?_⟩) (by assumption) ?_
              rotate_left
              · (intro wz hSw; (try dsimp only at hSw); go_simp; try with_reducible rfl)
              try simp only [Act.put, List.setIfInBounds_toArray, List.set_cons_zero, List.set_cons_succ, List.getElem_toArray, List.getElem_cons_succ, List.getElem_cons_zero, List.getElem?_toArray, List.getElem?_cons_zero, List.getElem?_cons_succ]
              refine wpAnyH_take (i := 6) (v := ?_) rfl (by kernel_rfl) (by kernel_rfl) (by kernel_rfl) (fun _ _ _ h => h) (Or.inl ⟨by rfl, ?_⟩) (by assumption) ?_
              rotate_left
              · (intro wz hSw; (try dsimp only at hSw); go_simp; try with_reducible rfl)
              try simp only [Act.put, List.setIfInBounds_toArray, List.set_cons_zero, List.set_cons_succ, List.getElem_toArray, List.getElem_cons_succ, List.getElem_cons_zero, List.getElem?_toArray, List.getElem?_cons_zero, List.getElem?_cons_succ]
              refine wpAnyH_take (i := 7) (v := ?_) rfl (by kernel_rfl) (by kernel_rfl) (by kernel_rfl) (fun _ _ _ h => h) (Or.inl ⟨by rfl, ?_⟩) (by assumption) ?_
              rotate_left
              · (intro wz hSw; (try dsimp only at hSw); go_simp; try with_reducible rfl)
              try simp only [Act.put, List.setIfInBounds_toArray, List.set_cons_zero, List.set_cons_succ, List.getElem_toArray, List.getElem_cons_succ, List.getElem_cons_zero, List.getElem?_toArray, List.getElem?_cons_zero, List.getElem?_cons_succ]
              refine wpAnyH_take (i := 8) (v := ?_) rfl (by kernel_rfl) (by kernel_rfl) (by kernel_rfl) (fun _ _ _ h => h) (Or.inl ⟨by rfl, ?_⟩) (by assumption) ?_
              rotate_left
              · (intro wz hSw; (try dsimp only at hSw); go_simp; try with_reducible rfl)
              try simp only [Act.put, List.setIfInBounds_toArray, List.set_cons_zero, List.set_cons_succ, List.getElem_toArray, List.getElem_cons_succ, List.getElem_cons_zero, List.getElem?_toArray, List.getElem?_cons_zero, List.getElem?_cons_succ]
              refine wpAnyH_take (i := 9) (v := ?_) rfl (by kernel_rfl) (by kernel_rfl) (by kernel_rfl) (fun _ _ _ h => h) (Or.inl ⟨by rfl, ?_⟩) (by assumption) ?_
              rotate_left
              · (intro wz hSw; (try dsimp only at hSw); go_simp; try with_reducible rfl)
              try simp only [Act.put, List.setIfInBounds_toArray, List.set_cons_zero, List.set_cons_succ, List.getElem_toArray, List.getElem_cons_succ, List.getElem_cons_zero, List.getElem?_toArray, List.getElem?_cons_zero, List.getElem?_cons_succ]
              refine wpAnyH_take (i := 10) (v := ?_) rfl (by kernel_rfl) (by kernel_rfl) (by kernel_rfl) (fun _ _ _ h => h) (Or.inl ⟨by rfl, ?_⟩) (by assumption) ?_
              rotate_left
              · (intro wz hSw; (try dsimp only at hSw); go_simp; try with_reducible rfl)
              try simp only [Act.put, List.setIfInBounds_toArray, List.set_cons_zero, List.set_cons_succ, List.getElem_toArray, List.getElem_cons_succ, List.getElem_cons_zero, List.getElem?_toArray, List.getElem?_cons_zero, List.getElem?_cons_succ]
              refine wpAnyH_take (i := 11) (v := ?_) rfl (by kernel_rfl) (by kernel_rfl) (by kernel_rfl) (fun _ _ _ h => h) (Or.inl ⟨by rfl, ?_⟩) (by assumption) ?_
              rotate_left
              · (intro wz hSw; (try dsimp only at hSw); go_simp; try with_reducible rfl)
              try simp only [Act.put, List.setIfInBounds_toArray, List.set_cons_zero, List.set_cons_succ, List.getElem_toArray, List.getElem_cons_succ, List.getElem_cons_zero, List.getElem?_toArray, List.getElem?_cons_zero, List.getElem?_cons_succ]
              refine wpAnyH_take (i := 12) (v := ?_) rfl (by kernel_rfl) (by kernel_rfl) (by kernel_rfl) (fun _ _ _ h => h) (Or.inl ⟨by rfl, ?_⟩) (by assumption) ?_
              rotate_left
              · (intro wz hSw; (try dsimp only at hSw); go_simp; try with_reducible rfl)
              try simp only [Act.put, List.setIfInBounds_toArray, List.set_cons_zero, List.set_cons_succ, List.getElem_toArray, List.getElem_cons_succ, List.getElem_cons_zero, List.getElem?_toArray, List.getElem?_cons_zero, List.getElem?_cons_succ]
              refine wpAnyH_take (i := 13) (v := ?_) rfl (by kernel_rfl) (by kernel_rfl) (by kernel_rfl) (fun _ _ _ h => h) (Or.inl ⟨by rfl, ?_⟩) (by assumption) ?_
              rotate_left
              · (intro wz hSw; (try dsimp only at hSw); go_simp; try with_reducible rfl)
              try simp only [Act.put, List.setIfInBounds_toArray, List.set_cons_zero, List.set_cons_succ, List.getElem_toArray, List.getElem_cons_succ, List.getElem_cons_zero, List.getElem?_toArray, List.getElem?_cons_zero, List.getElem?_cons_succ]
              refine wpAnyH_take (i := 14) (v := ?_) rfl (by kernel_rfl) (by kernel_rfl) (by kernel_rfl) (fun _ _ _ h => h) (Or.inl ⟨by rfl, ?_⟩) (by assumption) ?_
              rotate_left
              · (intro wz hSw; (try dsimp only at hSw); go_simp; try with_reducible rfl)
              try simp only [Act.put, List.setIfInBounds_toArray, List.set_cons_zero, List.set_cons_succ, List.getElem_toArray, List.getElem_cons_succ, List.getElem_cons_zero, List.getElem?_toArray, List.getElem?_cons_zero, List.getElem?_cons_succ]
              refine wpAnyH_take (i := 15) (v := ?_) rfl (by kernel_rfl) (by kernel_rfl) (by kernel_rfl) (fun _ _ _ h => h) (Or.inl ⟨by rfl, ?_⟩) (by assumption) ?_
              rotate_left
              · (intro wz hSw; (try dsimp only at hSw); go_simp; try with_reducible rfl)
              try simp only [Act.put, List.setIfInBounds_toArray, List.set_cons_zero, List.set_cons_succ, List.getElem_toArray, List.getElem_cons_succ, List.getElem_cons_zero, List.getElem?_toArray, List.getElem?_cons_zero, List.getElem?_cons_succ]
              refine wpAnyH_take (i := 16) (v := ?_) rfl (by kernel_rfl) (by kernel_rfl) (by kernel_rfl) (fun _ _ _ h => h) (Or.inl ⟨by rfl, ?_⟩) (by assumption) ?_
              rotate_left
              · (intro wz hSw; (try dsimp only at hSw); go_simp; try with_reducible rfl)
              try simp only [Act.put, List.setIfInBounds_toArray, List.set_cons_zero, List.set_cons_succ, List.getElem_toArray, List.getElem_cons_succ, List.getElem_cons_zero, List.getElem?_toArray, List.getElem?_cons_zero, List.getElem?_cons_succ]
              refine wpAnyH_ready (rs := [17]) (by kernel_rfl) (by simp) ?_
              refine AllReadyH.cons rfl (fun K hK => ?_) AllReadyH.nil
              go_simp
              go_at_call 34
              refine (HAH.out _ HBQ.out).mono ?_
              rintro r w9 ⟨rfl, hb9⟩
              have HBR := Lib.hid (below_past HBQ.out hb9)
              clear hb9
              try go_wp2_with fail
              refine hK.out _ _ ⟨HKP.out _ HBR.out, HKP2.out _ HBR.out⟩ (fun hHeld3 => ?_)
              clear hK K hHeld2
              try simp only [Act.put, List.setIfInBounds_toArray, List.set_cons_zero, List.set_cons_succ, List.getElem_toArray, List.getElem_cons_succ, List.getElem_cons_zero, List.getElem?_toArray, List.getElem?_cons_zero, List.getElem?_cons_succ]
              refine wpAnyH_take (i := 18) (v := ?_) rfl (by kernel_rfl) (by kernel_rfl) (by kernel_rfl) (fun _ _ _ h => h) (Or.inl ⟨by rfl, ?_⟩) (by assumption) ?_
              rotate_left
              · (intro wz hSw; (try dsimp only at hSw); go_simp; try with_reducible rfl)
              try simp only [Act.put, List.setIfInBounds_toArray, List.set_cons_zero, List.set_cons_succ, List.getElem_toArray, List.getElem_cons_succ, List.getElem_cons_zero, List.getElem?_toArray, List.getElem?_cons_zero, List.getElem?_cons_succ]
              refine wpAnyH_take (i := 19) (v := ?_) rfl (by kernel_rfl) (by kernel_rfl) (by kernel_rfl) (fun _ _ _ h => h) (Or.inl ⟨by rfl, ?_⟩) (by assumption) ?_
              rotate_left
              · (intro wz hSw; (try dsimp only at hSw); go_simp; try with_reducible rfl)
              try simp only [Act.put, List.setIfInBounds_toArray, List.set_cons_zero, List.set_cons_succ, List.getElem_toArray, List.getElem_cons_succ, List.getElem_cons_zero, List.getElem?_toArray, List.getElem?_cons_zero, List.getElem?_cons_succ]
              refine wpAnyH_take (i := 20) (v := ?_) rfl (by kernel_rfl) (by kernel_rfl) (by kernel_rfl) (fun _ _ _ h => h) (Or.inl ⟨by rfl, ?_⟩) (by assumption) ?_
              rotate_left
              · (intro wz hSw; (try dsimp only at hSw); go_simp; try with_reducible rfl)
              try simp only [Act.put, List.setIfInBounds_toArray, List.set_cons_zero, List.set_cons_succ, List.getElem_toArray, List.getElem_cons_succ, List.getElem_cons_zero, List.getElem?_toArray, List.getElem?_cons_zero, List.getElem?_cons_succ]
              refine wpAnyH_done (by kernel_rfl) ?_ _
              all_goals
                have HB9 := Lib.hid (HB1.out.trans (HBR.out.mono HB1.out.size))
                go_wp2
                go_roundw
                case rel => exact ⟨k' + 1 + 1, by omega, by go_num, ⟨HB9.out⟩⟩
                case measure => simp [intOf]; omega
      · obtain rfl : k = L.length := by omega
        clear z0 z1 z2 z6 z7 z8
        go_wp2_with (first
          | (go_at_call 35; with_reducible refine (HCN.out _ wr _ _ ST1.out.r1 ST1.out.r2).mono ?_; rintro r w9 ⟨rfl, hx⟩))
        go_ret
        exact ⟨by first | rfl | simp | (rw [hwl2]; simp), below_past ST1.out.below hx⟩
  · have hbad : (g1 = false) ∨ (g1 = true ∧ 300 < n1) := by
      cases g1 <;> simp at hgood ⊢ <;> omega
    clear hgood
    rcases hbad with rfl | ⟨rfl, k1⟩
    all_goals
      go_enter Tryz.func5, Tryz.ntmps5
      go_wp2_with (first
        | (go_at_call 16; with_reducible refine (tu_awake ST.out).mono ?_; rintro r w3 ⟨rfl, hx⟩; clear ST; have ST := Lib.hid hx; obtain ⟨⟨z0, z1, z2⟩, z6, z7, z8⟩ := hx.cells; clear hx)
        | (go_at_call 26; with_reducible refine (F1.out _ ST.out).mono ?_; rintro r w4 ⟨rfl, hx⟩; clear ST; have ST := Lib.hid hx; obtain ⟨⟨z0, z1, z2⟩, z6, z7, z8⟩ := hx.cells; clear hx)
        | (go_at_call 27; with_reducible refine (F3.out _ ST.out).mono ?_; rintro r w6 ⟨rfl, hx⟩; clear ST; have ST := Lib.hid hx; obtain ⟨⟨z0, z1, z2⟩, z6, z7, z8⟩ := hx.cells; clear hx))
      go_ret
      exact ⟨rfl, ST.out.below⟩
end Go.Proofs.YtnfkjodiielidaaGreatDoor

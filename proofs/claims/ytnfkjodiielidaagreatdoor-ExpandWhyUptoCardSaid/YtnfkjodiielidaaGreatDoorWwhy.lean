/- The ways by which a user is in a tree. -/
import Derived.Test.YtnfkjodiielidaaGreatDoorWwalk
import Derived.Test.YtnfkjodiielidaaGreatDoorWpeople
namespace Go.Proofs.YtnfkjodiielidaaGreatDoor
set_option linter.unusedVariables false
set_option linter.unusedSimpArgs false
open Go.RowKit

set_option maxRecDepth 100000 in
set_option maxHeartbeats 2000000 in
theorem index_user {A : Nat → Prop} {w : World} {xs : List LUser} {v : Value} (hu : RepD A w (.slice 3 (xs.map LUser.d)) v) (u : LUser) :
    Calls Tryz.prog 110 #[v, .agg #[.string u.kind, .string u.id, .string u.rel]] w fun e w' => (∃ n : Int, e = .returned (.int .i64 n) ∧ decide (0 ≤ n) = decide (u ∈ xs)) ∧ Below w.heap.size w w' := by
  have mixed : Tryz.prog.follows Departure.mixedOrders = true := by kernel_rfl
  obtain ⟨a, c, rfl, _, hl, hk⟩ := hu.users
  have HK := Lib.hid hk; clear hk hu
  generalize hr : decide (u ∈ xs) = r
  have HR := Lib.hid hr; clear hr
  have hB0 : Below w.heap.size w (w.alloc (.cells #[.string u.kind, .string u.id, .string u.rel] 25)) := (Below.refl _ w).alloc (Nat.le_refl _) _
  go_enter Tryz.func110, Tryz.ntmps110
  go_wp2
  go_loopw [5, 8] (fun _ i wr => ∃ k : Nat, k ≤ xs.length ∧ i = .int .i64 k ∧ Below w.heap.size w wr ∧ wr.heap[w.heap.size]? = some (.cells #[.string u.kind, .string u.id, .string u.rel] 25) ∧ Aside (u ∉ xs.take k)) (fun _ i _ => xs.length - (intOf i).toNat)
  case atStart => exact ⟨0, by omega, rfl, hB0, heap_alloc_at rfl, ⟨by simp⟩⟩
  case round =>
    obtain ⟨k, hk, rfl, hB, hbx, hF⟩ := hrel
    by_cases hlt : k < xs.length
    · obtain ⟨b, off, rfl, _, e0, e1, e2⟩ := HK.out k hlt
      have hbl : b < w.heap.size := World.block_lt_of_cell? w _ e0
      rw [← hB.cell (by exact hbl)] at e0 e1 e2
      have c0 : wr.cell? ⟨w.heap.size, 0, none⟩ = some (.string u.kind) := by simp [World.cell?, hbx]
      have c1 : wr.cell? ⟨w.heap.size, 1, none⟩ = some (.string u.id) := by simp [World.cell?, hbx]
      have c2 : wr.cell? ⟨w.heap.size, 2, none⟩ = some (.string u.rel) := by simp [World.cell?, hbx]
      have HBX := Lib.hid hbx; clear hbx
      have hx : xs.take (k + 1) = xs.take k ++ [xs[k]] := List.take_succ_eq_append_getElem hlt
      have HX := Lib.hid hx; clear hx
      have hm : xs[k] ∈ xs := List.getElem_mem hlt
      have HM := Lib.hid hm; clear hm
      generalize xs[k] = x at *
      have heq := user_eql u x
      unfold LUser.val at heq
      by_cases hxy : u = x
      · rw [show (decide (u = x)) = true by simp [hxy]] at heq
        have hf : true = r := by rw [← HR.out]; have := HM.out; rw [← hxy] at this; simp [this]
        have HF := Lib.hid hf; clear hf hxy
        go_wp2_with fail
        go_region_o
        go_wp2
        go_ret
        exact ⟨⟨k, rfl, by rw [← HF.out]; simp⟩, hB.drew⟩
      · rw [show (decide (u = x)) = false by simp [hxy]] at heq
        have hno : u ∉ xs.take (k + 1) := by rw [HX.out]; simp only [List.mem_append, List.mem_singleton, not_or]; exact ⟨hF.out, fun e => hxy e⟩
        have HNO := Lib.hid hno; clear hno hxy
        go_wp2_with fail
        go_region_o
        go_wp2
        go_roundw
        case rel => exact ⟨k + 1, by omega, by go_num, hB.drew, HBX.out, ⟨HNO.out⟩⟩
        case measure => simp [intOf]; omega
    · have hkn : k = xs.length := by omega
      have ht : false = r := by
        rw [← HR.out]
        have := hF.out
        rw [hkn, List.take_of_length_le (Nat.le_refl _)] at this
        simp [this]
      have HT := Lib.hid ht; clear ht hkn
      go_wp2
      go_ret
      exact ⟨⟨-1, rfl, by rw [← HT.out]; simp⟩, hB⟩
set_option maxRecDepth 100000 in
set_option maxHeartbeats 2000000 in
theorem contains_user {A : Nat → Prop} {w : World} {xs : List LUser} {v : Value} (hu : RepD A w (.slice 3 (xs.map LUser.d)) v) (u : LUser) :
    Calls Tryz.prog 66 #[v, .agg #[.string u.kind, .string u.id, .string u.rel]] w fun e w' => e = .returned (.bool (decide (u ∈ xs))) ∧ Below w.heap.size w w' := by
  obtain ⟨a, c, hv⟩ := hu.formM
  subst hv
  have hB0 : Below w.heap.size w (w.alloc (.cells #[.string u.kind, .string u.id, .string u.rel] 25)) := (Below.refl _ w).alloc (Nat.le_refl _) _
  have hix := index_user (hu.old hB0) u
  generalize decide (u ∈ xs) = r at *
  have HI := Lib.hid hix; have HB0 := Lib.hid hB0
  clear hu hix hB0
  go_enter Tryz.func66, Tryz.ntmps66
  go_wp2_with fail
  refine HI.out.mono ?_
  rintro e w1 ⟨⟨n, rfl, hn⟩, hb⟩
  go_wp2
  go_ret
  refine ⟨ret_bool ?_, below_past HB0.out hb⟩
  rw [← hn]
def slCells (s : SlV) : List Value := [.slice s.a s.n s.c]
theorem slCells_len (s : SlV) : (slCells s).length = 1 := rfl
theorem slCells_one (s : SlV) : ∀ v ∈ slCells s, v.oneCell' = true := by intro v hv; simp [slCells] at hv; subst hv; rfl
theorem info_ints : (Tryz.prog.info? 56).map (fun i => (i.zero, i.size, i.bytes)) = some (some (.slice none 0 0), 1, 24) := by kernel_rfl
def wayD (w : List Nat) : List D := [.slice 1 (w.map natD)]
/-- The ways told so far. -/
structure WaysIn (ob ub B0 : Nat) (u : LUser) (W : World) (s : List (List Nat)) (vo : Value) (rows : List SlV) : Prop where
  box : W.cell? ⟨ob, 0, none⟩ = some vo
  fz : W.frozen? ⟨ob, 0, none⟩ = false
  us : W.cell? ⟨ub, 0, none⟩ = some (.string u.kind) ∧ W.cell? ⟨ub, 1, none⟩ = some (.string u.id) ∧ W.cell? ⟨ub, 2, none⟩ = some (.string u.rel)
  own : OwnL W B0 56 1 slCells vo rows
  past : B0 ≤ W.heap.size
  len : rows.length = s.length
  reps : ∀ p, p ∈ s.zip rows → RepD (fun b => ¬ (b = ob ∨ vo.ownBlock = some b)) W (.slice 1 (p.1.map natD)) p.2.val
def WaysAt (ob ub B0 : Nat) (u : LUser) (W : World) (s : List (List Nat)) (A : Nat → Prop) : Prop := ∃ vo rows, WaysIn ob ub B0 u W s vo rows ∧ A = fun b => b = ob ∨ vo.ownBlock = some b
def stepW (u : LUser) (s : List (List Nat)) (t : LTree) (way : List Nat) : List (List Nat) := if u ∈ t.users then s ++ [way] else s
set_option maxRecDepth 100000 in
set_option maxHeartbeats 4000000 in
theorem why_take (ob ub B0 : Nat) (u : LUser) (h1 : ob < B0) (h2 : ub < B0) (h3 : ub ≠ ob) : TakeOk (σ := List (List Nat)) 65 #[.pointer (some ⟨ub, 0, none⟩), .pointer (some ⟨ob, 0, none⟩)] (WaysAt ob ub B0 u) (stepW u) (fun _ _ => True) (fun s => s.length) where
  grow s t way := by unfold stepW; split <;> simp
  next W W' s A h hb := by
    obtain ⟨vo, rows, h, rfl⟩ := h
    have hl : ob < W.heap.size := World.block_lt_of_cell? _ _ h.box
    have hl2 : ub < W.heap.size := World.block_lt_of_cell? _ _ h.us.1
    refine ⟨vo, rows, ⟨(hb.cell (p := ⟨ob, 0, none⟩) hl).trans h.box, (hb.frozen (p := ⟨ob, 0, none⟩) hl).trans h.fz, ?_, h.own.below hb, Nat.le_trans h.past hb.size, h.len, fun p hp => (h.reps p hp).old hb⟩, rfl⟩
    have hc : ∀ j, W'.cell? ⟨ub, j, none⟩ = W.cell? ⟨ub, j, none⟩ := fun j => hb.cell (p := ⟨ub, j, none⟩) hl2
    simp only [hc]
    exact h.us
  lt W s A h b hb := by
    obtain ⟨vo, rows, h, rfl⟩ := h
    have hl : ob < W.heap.size := World.block_lt_of_cell? _ _ h.box
    have hb2 : b = ob ∨ vo.ownBlock = some b := hb
    rcases hb2 with rfl | h4
    · exact hl
    · exact (h.own.block b h4).2
  take W s A t us ps wv way h hsz _ hu hp hw := by
    obtain ⟨vo, rows, h, rfl⟩ := h
    obtain ⟨ua, uc, huf⟩ := hu.formM
    obtain ⟨pa, pc, hpf⟩ := hp.formM
    subst huf hpf
    obtain ⟨wa, wc, hwf⟩ := hw.rep.formM
    subst hwf
    have hl : ob < W.heap.size := World.block_lt_of_cell? _ _ h.box
    have hl2 : ub < W.heap.size := World.block_lt_of_cell? _ _ h.us.1
    have hB : Below W.heap.size W (W.alloc (.cells #[.string t.op, .slice ua t.users.length uc, .slice pa t.parts.length pc] 32)) := (Below.refl _ W).alloc (Nat.le_refl _) _
    have hcon := contains_user (hu.old hB) u
    obtain ⟨a0, a1, a2⟩ := h.us
    have hrl : rows.length ≤ 10000000 := by rw [h.len]; exact hsz
    have H := Lib.hid h; have HB := Lib.hid hB; have HW := Lib.hid hw
    clear hu hp hw hB h
    show Calls Tryz.prog _ (#[.agg #[.string t.op, .slice ua t.users.length uc, .slice pa t.parts.length pc], .slice wa way.length wc, .pointer (some ⟨ub, 0, none⟩), .pointer (some ⟨ob, 0, none⟩)]) W _
    unfold stepW
    by_cases hm : u ∈ t.users
    · rw [if_pos hm]
      rw [decide_eq_true hm] at hcon
      have HC := Lib.hid hcon
      clear hcon hm
      go_enter Tryz.func65, Tryz.ntmps65
      go_wp2_with fail
      refine HC.out.mono ?_
      rintro e w1 ⟨rfl, hb1⟩
      have hB1 := below_past HB.out hb1
      have o0 := (hB1.cell (p := ⟨ob, 0, none⟩) hl).trans H.out.box
      have z0 := (hB1.frozen (p := ⟨ob, 0, none⟩) hl).trans H.out.fz
      have hO1 := H.out.own.below hB1
      have HB1 := Lib.hid hB1; have HO1 := Lib.hid hO1
      have hpast := Nat.le_trans H.out.past hB1.size
      clear hb1 hB1 hO1 HC
      go_wp2_with (at_builtin; refine wpList_app B0 rfl _ _ _ 56 _ 1 24 rfl Tryz.underlying54 info_ints rfl (by omega) (by omega) slCells slCells_len slCells_one vo rows ⟨wa, way.length, wc⟩ rfl rfl rfl HO1.out hpast (by omega) ?_; intro v2 w2 hO2 hB2 hF2; obtain ⟨a2, c2, hv2, _⟩ := hO2.form; subst hv2; simp only [List.length_append, List.length_cons, List.length_nil, Nat.zero_add] at hO2 hF2 ⊢; have o2 := (hB2.cell (p := ⟨ob, 0, none⟩) h1).trans o0; have z2 := (hB2.frozen (p := ⟨ob, 0, none⟩) h1).trans z0; have HO2 := Lib.hid hO2; have HB2 := Lib.hid hB2; have HF2 := Lib.hid hF2; clear hO2 hB2 hF2)
      obtain ⟨q1, q2⟩ := cell_put (v' := (.slice a2 (rows.length + 1) c2)) o2 z2
      have hFs : Fr (fun k => k = ob) w2 (w2.setCell ⟨ob, 0, none⟩ (.slice a2 (rows.length + 1) c2)) := fr_setCells (g := ob) [(.slice a2 (rows.length + 1) c2)] 0 w2
      have hown2 : ∀ b, (Value.slice a2 (rows.length + 1) c2).ownBlock = some b → vo.ownBlock = some b ∨ w1.heap.size ≤ b := fun b hb => HF2.out.2 b hb
      have hFW : Fr (fun b => b = ob ∨ vo.ownBlock = some b) W (w2.setCell ⟨ob, 0, none⟩ (.slice a2 (rows.length + 1) c2)) := by
        have h5 : Fr (fun b => b = ob ∨ vo.ownBlock = some b) W w1 := Fr.of_below HB1.out
        have h6 : Fr (fun b => b = ob ∨ vo.ownBlock = some b) w1 w2 := HF2.out.1.mono fun k _ e => .inr e
        have h7 : Fr (fun b => b = ob ∨ vo.ownBlock = some b) w2 (w2.setCell ⟨ob, 0, none⟩ (.slice a2 (rows.length + 1) c2)) := hFs.mono fun k _ e => .inl e
        exact (h5.trans h6).trans h7
      have hkeep : ∀ (d : D) (v : Value), RepD (fun b => ¬ (b = ob ∨ vo.ownBlock = some b)) W d v → RepD (fun b => ¬ (b = ob ∨ (Value.slice a2 (rows.length + 1) c2).ownBlock = some b)) (w2.setCell ⟨ob, 0, none⟩ (.slice a2 (rows.length + 1) c2)) d v := fun d v hr => by
        have h8 := hr.mono (A' := fun b => (¬ (b = ob ∨ vo.ownBlock = some b)) ∧ b < W.heap.size) fun b hb hlt => ⟨hb, hlt⟩
        refine (h8.fr hFW fun b hb => hb.1).mono fun b hb _ h9 => ?_
        rcases h9 with h9 | h9
        · exact hb.1 (.inl h9)
        · rcases hown2 b h9 with h10 | h10
          · exact hb.1 (.inr h10)
          · have := HB1.out.size; have := hb.2; omega
      have hub : ∀ j, (w2.setCell ⟨ob, 0, none⟩ (.slice a2 (rows.length + 1) c2)).cell? ⟨ub, j, none⟩ = W.cell? ⟨ub, j, none⟩ := fun j => hFW.cell hl2 (fun hm => by
        rcases hm with hm | hm
        · exact h3 hm
        · have := (H.out.own.block ub hm).1; omega)
      go_end0
      refine ⟨rfl, _, ⟨(.slice a2 (rows.length + 1) c2), rows ++ [⟨wa, way.length, wc⟩], ⟨q1, q2, ?_, HO2.out.fr hFs (fun b hb e => by have := (OwnL.block HO2.out b hb).1; omega), ?_, by simp [H.out.len], ?_⟩, rfl⟩, hFW, fun b hb => ?_⟩
      · simp only [hub]; exact H.out.us
      · have := hFW.size; have := H.out.past; omega
      · intro p hp
        rw [List.zip_append H.out.len.symm] at hp
        rcases List.mem_append.1 hp with hp | hp
        · exact hkeep _ _ (H.out.reps p hp)
        · obtain rfl : p = (way, ⟨wa, way.length, wc⟩) := by simpa using hp
          exact hkeep _ _ HW.out.rep
      · rcases (show b = ob ∨ (Value.slice a2 (rows.length + 1) c2).ownBlock = some b from hb) with h9 | h9
        · exact .inl (.inl h9)
        · rcases hown2 b h9 with h10 | h10
          · exact .inl (.inr h10)
          · right; have := HB1.out.size; omega
    · rw [if_neg hm]
      rw [decide_eq_false hm] at hcon
      have HC := Lib.hid hcon
      clear hcon hm
      go_enter Tryz.func65, Tryz.ntmps65
      go_wp2_with fail
      refine HC.out.mono ?_
      rintro e w1 ⟨rfl, hb1⟩
      have hB1 := below_past HB.out hb1
      have hc : ∀ j, w1.cell? ⟨ub, j, none⟩ = W.cell? ⟨ub, j, none⟩ := fun j => hB1.cell (p := ⟨ub, j, none⟩) hl2
      have HB1 := Lib.hid hB1; have HCL := Lib.hid hc
      clear hb1 hB1 hc HC
      go_wp2
      go_end0
      refine ⟨rfl, _, ⟨vo, rows, ⟨(HB1.out.cell (p := ⟨ob, 0, none⟩) hl).trans H.out.box, (HB1.out.frozen (p := ⟨ob, 0, none⟩) hl).trans H.out.fz, ?_, H.out.own.below HB1.out, Nat.le_trans H.out.past HB1.out.size, H.out.len, fun p hp => (H.out.reps p hp).old HB1.out⟩, rfl⟩, Fr.of_below HB1.out, fun b hb => .inl hb⟩
      simp only [HCL.out]
      exact H.out.us
theorem fold_ways (u : LUser) : ∀ (L : List (LTree × List Nat)) (s : List (List Nat)), foldN (stepW u) s L = s ++ (L.filter fun n => decide (u ∈ n.1.users)).map (·.2) := by
  intro L
  induction L with
  | nil => intro s; simp [foldN]
  | cons p L ih =>
    intro s
    have := ih (stepW u s p.1 p.2)
    simp only [foldN, List.foldl_cons] at this ⊢
    rw [this]
    unfold stepW
    by_cases h : u ∈ p.1.users <;> simp [h]
set_option maxRecDepth 100000 in
set_option maxHeartbeats 4000000 in
theorem expand_Why {A : Nat → Prop} {w : World} {t : LTree} {us ps : Value} (hu : RepD A w (.slice 3 (t.users.map LUser.d)) us) (hp : RepD A w (.slice 3 (t.parts.map LTree.d)) ps) (hn : t.natSize ≤ 2000000) (u : LUser) :
    Calls Tryz.prog 32 #[.agg #[.string t.op, us, ps], .agg #[.string u.kind, .string u.id, .string u.rel]] w fun e w' => ∃ v, e = .returned v ∧ RepD (fun _ => True) w' (.slice 1 ((t.ways u).map wayD)) v ∧ Below w.heap.size w w' := by
  obtain ⟨ua, uc, huf⟩ := hu.formM
  obtain ⟨pa, pc, hpf⟩ := hp.formM
  subst huf hpf
  have hB : Below w.heap.size w (((w.alloc (.cells #[.string t.op, .slice ua t.users.length uc, .slice pa t.parts.length pc] 32)).alloc (.cells #[.string u.kind, .string u.id, .string u.rel] 25)).alloc (.cells #[.slice none 0 0] 54)) := (((Below.refl _ w).alloc (Nat.le_refl _) _).alloc (by simp) _).alloc (by simp; omega) _
  have hb2 : (((w.alloc (.cells #[.string t.op, .slice ua t.users.length uc, .slice pa t.parts.length pc] 32)).alloc (.cells #[.string u.kind, .string u.id, .string u.rel] 25)).alloc (.cells #[.slice none 0 0] 54)).heap[w.heap.size + 2]? = some (.cells #[.slice none 0 0] 54) := heap_alloc_at (by simp)
  have hb1 : (((w.alloc (.cells #[.string t.op, .slice ua t.users.length uc, .slice pa t.parts.length pc] 32)).alloc (.cells #[.string u.kind, .string u.id, .string u.rel] 25)).alloc (.cells #[.slice none 0 0] 54)).heap[w.heap.size + 1]? = some (.cells #[.string u.kind, .string u.id, .string u.rel] 25) := heap_alloc2 (by simp)
  have hb0 : (((w.alloc (.cells #[.string t.op, .slice ua t.users.length uc, .slice pa t.parts.length pc] 32)).alloc (.cells #[.string u.kind, .string u.id, .string u.rel] 25)).alloc (.cells #[.slice none 0 0] 54)).heap[w.heap.size]? = some (.cells #[.string t.op, .slice ua t.users.length uc, .slice pa t.parts.length pc] 32) := (Below.heap_alloc _ _ _ (by simp; omega)).trans (heap_alloc2 rfl)
  generalize hw3 : (((w.alloc (.cells #[.string t.op, .slice ua t.users.length uc, .slice pa t.parts.length pc] 32)).alloc (.cells #[.string u.kind, .string u.id, .string u.rel] 25)).alloc (.cells #[.slice none 0 0] 54)) = w3 at *
  have hsz3 : w3.heap.size = w.heap.size + 3 := by rw [← hw3]; simp
  have x0 : w3.cell? ⟨w.heap.size, 0, none⟩ = some (.string t.op) := by simp [World.cell?, hb0]
  have x1 : w3.cell? ⟨w.heap.size, 1, none⟩ = some (.slice ua t.users.length uc) := by simp [World.cell?, hb0]
  have x2 : w3.cell? ⟨w.heap.size, 2, none⟩ = some (.slice pa t.parts.length pc) := by simp [World.cell?, hb0]
  have hI : WaysAt (w.heap.size + 2) (w.heap.size + 1) (w.heap.size + 3) u w3 [] (fun b => b = w.heap.size + 2 ∨ (Value.slice none 0 0).ownBlock = some b) := by
    refine ⟨.slice none 0 0, [], ⟨(box1 hb2).1, (box1 hb2).2, ?_, OwnL.nil _ _ _ _ _, by omega, rfl, fun p hp => by cases hp⟩, rfl⟩
    refine ⟨?_, ?_, ?_⟩ <;> simp [World.cell?, hb1]
  have hnA : ∀ b, b < w.heap.size → ¬ (b = w.heap.size + 2 ∨ (Value.slice none 0 0).ownBlock = some b) := fun b hb h => by
    rcases h with h | h
    · omega
    · cases h
  have hu2 := ((hu.mono (A' := fun b => b < w.heap.size) fun b _ hlt => hlt).old hB).mono (A' := fun b => ¬ (b = w.heap.size + 2 ∨ (Value.slice none 0 0).ownBlock = some b)) fun b hb _ => hnA b hb
  have hp2 := ((hp.mono (A' := fun b => b < w.heap.size) fun b _ hlt => hlt).old hB).mono (A' := fun b => ¬ (b = w.heap.size + 2 ∨ (Value.slice none 0 0).ownBlock = some b)) fun b hb _ => hnA b hb
  have hcall := expand_walk (why_take (w.heap.size + 2) (w.heap.size + 1) (w.heap.size + 3) u (by omega) (by omega) (by omega)) (enters_of Tryz.func65 (by kernel_rfl) rfl) t [] (fun _ _ => trivial) (by simp; omega) _ [] _ _ _ (.slice none 0 0) hI (by simp; omega) hu2 hp2 ⟨.nil _ _ _, fun _ => rfl⟩
  have hfw : foldN (stepW u) [] (t.nodes []) = t.ways u := by
    rw [fold_ways, List.nil_append, LTree.nodes_ways]
    simp
  rw [hfw] at hcall
  have hwl : (t.ways u).length ≤ 2000000 := by rw [LTree.ways_length]; exact Nat.le_trans (LTree.count_le u t) hn
  have HC := Lib.hid hcall; have HB := Lib.hid hB
  clear hu hp hB hI hu2 hp2 hcall hfw hb0 hb1 hb2 hsz3
  go_enter Tryz.func32, Tryz.ntmps32
  go_wp2_with fail
  refine HC.out.mono ?_
  rintro e w4 ⟨rfl, A1, ⟨vo, rows, hW, rfl⟩, hF, _⟩
  have hB4 := HB.out.trans (hF.below HB.out.size fun k hk e => hnA k hk e)
  have o0 := hW.box
  obtain ⟨a, c, rfl, _⟩ := hW.own.form
  have hrl := hW.len
  have hrep : RepD (fun _ => True) w4 (.slice 1 ((t.ways u).map wayD)) (.slice a rows.length c) := by
    have hz : ((t.ways u).zip rows).map (·.2) = rows := List.map_snd_zip (by rw [hrl]; exact Nat.le_refl _)
    have hz1 : ((t.ways u).zip rows).map (·.1) = t.ways u := List.map_fst_zip (by rw [hrl]; exact Nat.le_refl _)
    have ho := hW.own
    have ho2 : OwnL w4 (w.heap.size + 3) 56 1 (fun p : List Nat × SlV => slCells p.2) (.slice a rows.length c) ((t.ways u).zip rows) := by
      unfold OwnL at ho ⊢
      have e1 : ((t.ways u).zip rows).length = rows.length := by rw [List.length_zip, hrl, Nat.min_self]
      have e2 : ((t.ways u).zip rows).flatMap (fun p => slCells p.2) = rows.flatMap slCells := by
        conv => rhs; rw [← hz]
        rw [List.flatMap_map]
      rw [e1, e2]
      exact ho
    have := ho2.reps (A := fun _ => True) (fun p => rfl) (fun p => wayD p.1) (fun p hp j hj => by
      match j, hj with
      | 0, _ => exact (hW.reps p hp).mono fun _ _ _ => trivial) (fun _ _ _ => trivial) (by rw [List.length_zip]; omega)
    have e3 : ((t.ways u).zip rows).map (fun p => wayD p.1) = (t.ways u).map wayD := by
      conv => rhs; rw [← hz1]
      rw [List.map_map]; rfl
    rwa [e3] at this
  have HR := Lib.hid hrep; have HB4 := Lib.hid hB4
  clear hrep hB4 hF hW HC hrl
  go_wp2
  go_ret
  exact ⟨_, rfl, HR.out, HB4.out⟩
end Go.Proofs.YtnfkjodiielidaaGreatDoor

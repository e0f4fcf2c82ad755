/- All nodes of a tree, told to a function. -/
-- needs expand.Size
/- How many nodes a tree has. -/
import Derived.Test.YtnfkjodiielidaaGreatDoorPtree
import Derived.Test.YtnfkjodiielidaaGreatDoorWset
import Derived.Test.YtnfkjodiielidaaGreatDoorWclone
import Derived.Deep.RegionLaw
import Derived.Test.YtnfkjodiielidaaGreatDoorWgrow0
namespace Go.Proofs.YtnfkjodiielidaaGreatDoor
set_option linter.unusedVariables false
set_option linter.unusedSimpArgs false
open Go.RowKit

def natD (n : Nat) : List D := [.int n]
def natCells (n : Nat) : List Value := [.int .i64 n]
theorem natCells_len (n : Nat) : (natCells n).length = 1 := rfl
theorem natCells_one (n : Nat) : ∀ v ∈ natCells n, v.oneCell' = true := by intro v hv; simp [natCells] at hv; subst hv; rfl
theorem info_int : (Tryz.prog.info? 3).map (fun i => (i.zero, i.size, i.bytes)) = some (some (.int .i64 0), 1, 8) := by kernel_rfl
def cloneI_ren : Go.Shelf.Ren := ⟨fun | 41 => 99 | n => n, fun | 22 => 56 | 23 => 3 | 4 => 4 | n => n, fun | n => n⟩
theorem cloneI : Go.Proofs.SlLaysE0.n41 Tryz.prog cloneI_ren := {
  mixed := by kernel_rfl
  f41 := ⟨Tryz.f99.name, by decide, Tryz.func99.trans (congrArg some (by kernel_rfl))⟩
  t4 := Tryz.underlying4
  a4 := Tryz.isAgg4
  z4 := Tryz.sizeOf4
  v4 := Tryz.zeroValue4
  t22 := Tryz.underlying56
  a22 := Tryz.isAgg56
  z22 := Tryz.sizeOf56
  v22 := Tryz.zeroValue56 }
/-- A way, as it is handed on: nil at the top. -/
structure WayAt (A : Nat → Prop) (w : World) (way : List Nat) (v : Value) : Prop where
  rep : RepD A w (.slice 1 (way.map natD)) v
  nil : way = [] → v = .slice none 0 0
theorem WayAt.mono {A A' : Nat → Prop} {w : World} {way : List Nat} {v : Value} (h : WayAt A w way v) (hA : ∀ b, A b → b < w.heap.size → A' b) : WayAt A' w way v := ⟨h.rep.mono hA, h.nil⟩
theorem WayAt.keep {A : Nat → Prop} {w w' : World} {way : List Nat} {v : Value} (h : WayAt A w way v) (hw : ∀ b, A b → b < w.heap.size → w'.heap[b]? = w.heap[b]?) : WayAt A w' way v := ⟨h.rep.keep hw, h.nil⟩
theorem WayAt.fr {A M : Nat → Prop} {w w' : World} {way : List Nat} {v : Value} (h : WayAt A w way v) (hf : Fr M w w') (hM : ∀ b, A b → ¬ M b) : WayAt A w' way v := h.keep fun b hA hb => hf.block b hb (hM b hA)
theorem clone_way {A : Nat → Prop} {w : World} {way : List Nat} {v : Value} (h : WayAt A w way v) (hl : way.length ≤ 100000000) :
    Calls Tryz.prog 99 #[v] w fun e w' => ∃ a c, e = .returned (.slice a way.length c) ∧ OwnL w' w.heap.size 3 1 natCells (.slice a way.length c) way ∧ Below w.heap.size w w' := by
  have hfin : ∀ (Q : Ending → World → Prop), True := fun _ => trivial
  obtain ⟨i0, hi0, hzz⟩ := Option.map_eq_some_iff.1 info_int
  simp only [Prod.mk.injEq] at hzz
  obtain ⟨hz0, hz1, hz2⟩ := hzz
  rcases Nat.eq_zero_or_pos way.length with h0 | h0
  · have hx : way = [] := List.eq_nil_of_length_eq_zero h0
    have hv := h.nil hx
    subst hv
    subst hx
    exact (AnyE.slices_Clone_nil cloneI 0 0 w).mono fun e w' ⟨he, hw⟩ => ⟨none, 0, he, OwnL.nil _ _ _ _ _, by subst hw; exact Below.refl _ _⟩
  · obtain ⟨a, c, us, hv, hc, _, hk⟩ := h.rep.rows
    obtain ⟨b, off, ha, _, _⟩ := hk 0 h0
    subst ha
    subst hv
    have hlen : (way.flatMap natCells).length = way.length * 1 := length_flat natCells_len way
    refine (AnyE.slices_Clone cloneI i0 (.int .i64 0) 1 8 hi0 hz0 hz1 hz2 rfl (by omega) Tryz.sizeOf3 b off way.length c (way.flatMap natCells) w hlen (by simp only [maxLen]; omega) (by omega) ?_ ?_).mono fun e w' ⟨v', he, ho, _, hb⟩ => ?_
    · intro j u hj
      have hjl : j < way.length := by have := (List.getElem?_eq_some_iff.1 hj).1; omega
      obtain ⟨b', off', ha', _, hcs⟩ := hk j hjl
      cases ha'
      obtain ⟨c1, r1⟩ := hcs 0 (by omega)
      have e1 : us j 0 = .int .i64 way[j] := r1.int_eq
      have e2 := getD_flatMap natCells 1 natCells_len way j 0 hjl (by omega) undef
      rw [Nat.mul_one, Nat.add_zero, List.getD_eq_getElem?_getD, hj] at e2
      simp only [Option.getD_some] at e2
      rw [Nat.mul_one, Nat.add_zero] at c1
      rw [c1, e1, e2]
      rfl
    · intro u hu
      obtain ⟨x, _, hx⟩ := List.mem_flatMap.1 hu
      exact natCells_one x u hx
    · have hO : OwnL w' w.heap.size 3 1 natCells v' way := ho
      obtain ⟨a', c', rfl, _⟩ := hO.form
      exact ⟨a', c', he, hO, hb⟩
/-- Rows of the call's own stand for a way. -/
theorem way_own {w : World} {base e : Nat} {v : Value} {way : List Nat} (h : OwnL w base e 1 natCells v way) (h0 : way ≠ []) (hl : way.length ≤ 100000000) : WayAt (fun b => base ≤ b) w way v :=
  ⟨h.rep natCells_len natD (fun x j hj => by
    match j, hj with
    | 0, _ => exact .int _) (fun _ hb => hb) (by omega), fun e => absurd e h0⟩

/-- What a function does that is told a node: from a state, with the blocks that it may write to. -/
structure TakeOk {σ : Type} (g : Nat) (lb : Array Value) (I : World → σ → (Nat → Prop) → Prop) (step : σ → LTree → List Nat → σ) (ok : LTree → List Nat → Prop) (sz : σ → Nat) : Prop where
  grow : ∀ s t way, sz (step s t way) ≤ sz s + 1
  next : ∀ W W' s A, I W s A → Below W.heap.size W W' → I W' s A
  lt : ∀ W s A, I W s A → ∀ b, A b → b < W.heap.size
  take : ∀ W s A (t : LTree) (us ps wv : Value) (way : List Nat), I W s A → sz s ≤ 10000000 → ok t way → RepD (fun b => ¬ A b) W (.slice 3 (t.users.map LUser.d)) us → RepD (fun b => ¬ A b) W (.slice 3 (t.parts.map LTree.d)) ps → WayAt (fun b => ¬ A b) W way wv →
    Calls Tryz.prog g (#[.agg #[.string t.op, us, ps], wv] ++ lb) W fun e W' => e = .returned (.tuple #[]) ∧ ∃ A', I W' (step s t way) A' ∧ Fr A W W' ∧ ∀ b, A' b → A b ∨ W.heap.size ≤ b
def foldN {σ : Type} (step : σ → LTree → List Nat → σ) (s : σ) (L : List (LTree × List Nat)) : σ := L.foldl (fun s p => step s p.1 p.2) s
theorem foldN_append {σ : Type} (step : σ → LTree → List Nat → σ) (s : σ) (L L' : List (LTree × List Nat)) : foldN step s (L ++ L') = foldN step (foldN step s L) L' := by simp [foldN]
theorem foldN_sz {σ : Type} {step : σ → LTree → List Nat → σ} {sz : σ → Nat} (h : ∀ s t way, sz (step s t way) ≤ sz s + 1) : ∀ (L : List (LTree × List Nat)) (s : σ), sz (foldN step s L) ≤ sz s + L.length := by
  intro L
  induction L with
  | nil => intro s; simp [foldN]
  | cons p L ih => intro s; have := ih (step s p.1 p.2); have := h s p.1 p.2; simp only [foldN, List.foldl_cons, List.length_cons] at *; omega
theorem nodesL_length (way : List Nat) (ps : List LTree) : ∀ i, (LTree.nodesL way ps i).length = (ps.map LTree.natSize).sum := by
  induction ps with
  | nil => intro i; rfl
  | cons x ps ih => intro i; rw [LTree.nodesL_cons, List.length_append, LTree.nodes_length, ih]; simp
def WalkOk {σ : Type} (sz : σ → Nat) (g : Nat) (lb : Array Value) (I : World → σ → (Nat → Prop) → Prop) (step : σ → LTree → List Nat → σ) (t : LTree) (way : List Nat) : Prop :=
  ∀ W s A (us ps wv : Value), I W s A → sz s + t.natSize ≤ 10000000 → RepD (fun b => ¬ A b) W (.slice 3 (t.users.map LUser.d)) us → RepD (fun b => ¬ A b) W (.slice 3 (t.parts.map LTree.d)) ps → WayAt (fun b => ¬ A b) W way wv →
    Calls Tryz.prog 56 #[.agg #[.string t.op, us, ps], wv, .func (.func g) #[] lb] W fun e W' => e = .returned (.tuple #[]) ∧ ∃ A', I W' (foldN step s (t.nodes way)) A' ∧ Fr A W W' ∧ ∀ b, A' b → A b ∨ W.heap.size ≤ b
set_option maxRecDepth 100000 in
set_option maxHeartbeats 8000000 in
theorem expand_walk {σ : Type} {g : Nat} {lb : Array Value} {I : World → σ → (Nat → Prop) → Prop} {step : σ → LTree → List Nat → σ} {ok : LTree → List Nat → Prop} {sz : σ → Nat} (hT : TakeOk g lb I step ok sz) (eg : ∀ args w, (callFunc g args).run Tryz.prog w = .ok (.enter g args) w) (t : LTree) :
    ∀ way, (∀ p, p ∈ t.nodes way → ok p.1 p.2) → way.length + t.natSize ≤ 10000000 → WalkOk sz g lb I step t way := by
  induction t using LTree.ind with
  | h t ih =>
  intro way hok hlen W s A us ps wv hI hsz hu hp hw
  obtain ⟨ua, uc, huf⟩ := hu.formM
  obtain ⟨pa, pc, hpf⟩ := hp.formM
  subst huf hpf
  have hB0 : Below W.heap.size W (W.alloc (.cells #[.string t.op, .slice ua t.users.length uc, .slice pa t.parts.length pc] 32)) := (Below.refl _ W).alloc (Nat.le_refl _) _
  have hbx : (W.alloc (.cells #[.string t.op, .slice ua t.users.length uc, .slice pa t.parts.length pc] 32)).heap[W.heap.size]? = some (.cells #[.string t.op, .slice ua t.users.length uc, .slice pa t.parts.length pc] 32) := heap_alloc_at rfl
  have hne := t.nodes_eq way
  have hcall := hT.take _ s A t _ _ wv way (hT.next _ _ _ _ hI hB0) (by omega) (hok (t, way) (by rw [hne]; simp)) (hu.old hB0) (hp.old hB0) (hw.keep fun b _ hb => hB0.block b hb)
  have hlt0 := hT.lt _ _ _ hI
  have hns : t.natSize = (t.parts.map LTree.natSize).sum + 1 := t.natSize_eq
  have hpl : t.parts.length ≤ t.natSize := by
    rw [hns]
    have : ∀ L : List LTree, L.length ≤ (L.map LTree.natSize).sum := by
      intro L
      induction L with
      | nil => simp
      | cons x L ih2 => have := LTree.natSize_eq x; simp only [List.length_cons, List.map_cons, List.sum_cons]; omega
    have := this t.parts
    omega
  have hIH : ∀ k (hk : k < t.parts.length), WalkOk sz g lb I step t.parts[k] (way ++ [k]) := fun k hk => by
    refine ih _ (List.getElem_mem hk) _ (fun p hp2 => hok p ?_) ?_
    · rw [hne]
      refine List.mem_cons_of_mem _ ?_
      unfold LTree.nodesL
      refine List.mem_flatten.2 ⟨_, List.mem_map.2 ⟨(t.parts[k], k), ?_, rfl⟩, hp2⟩
      rw [List.mem_zipIdx_iff_getElem?]
      simp [hk]
    · have h1 : t.parts[k].natSize ≤ (t.parts.map LTree.natSize).sum := by
        have : ∀ (L : List LTree) (x : LTree), x ∈ L → x.natSize ≤ (L.map LTree.natSize).sum := by
          intro L x
          induction L with
          | nil => intro h; cases h
          | cons z L ih2 =>
            intro h
            simp only [List.map_cons, List.sum_cons]
            rcases List.mem_cons.1 h with rfl | h
            · omega
            · have := ih2 h; omega
        exact this _ _ (List.getElem_mem hk)
      simp only [List.length_append, List.length_cons, List.length_nil]
      omega
  have hnl : ∀ k (hk : k < t.parts.length), foldN step s ((t, way) :: LTree.nodesL way (t.parts.take (k + 1)) 0) = foldN step (foldN step s ((t, way) :: LTree.nodesL way (t.parts.take k) 0)) (t.parts[k].nodes (way ++ [k])) := fun k hk => by
    rw [List.take_succ_eq_append_getElem hk, LTree.nodesL_snoc, ← foldN_append]
    simp only [List.length_take, Nat.min_eq_left (Nat.le_of_lt hk), Nat.zero_add, List.cons_append]
  have hszk : ∀ k (hk : k < t.parts.length), sz (foldN step s ((t, way) :: LTree.nodesL way (t.parts.take k) 0)) + t.parts[k].natSize ≤ 10000000 := fun k hk => by
    have h1 := foldN_sz hT.grow ((t, way) :: LTree.nodesL way (t.parts.take k) 0) s
    rw [List.length_cons, nodesL_length] at h1
    have h2 : ((t.parts.take k).map LTree.natSize).sum + t.parts[k].natSize ≤ (t.parts.map LTree.natSize).sum := by
      have h3 : t.parts.map LTree.natSize = (t.parts.take (k + 1)).map LTree.natSize ++ (t.parts.drop (k + 1)).map LTree.natSize := by rw [← List.map_append, List.take_append_drop]
      rw [h3, List.take_succ_eq_append_getElem hk]
      simp only [List.map_append, List.sum_append, List.map_cons, List.map_nil, List.sum_cons, List.sum_nil]
      omega
    omega
  have hfin : foldN step s (t.nodes way) = foldN step s ((t, way) :: LTree.nodesL way (t.parts.take t.parts.length) 0) := by rw [hne, List.take_length]
  have hst0 : step s t way = foldN step s ((t, way) :: LTree.nodesL way (t.parts.take 0) 0) := rfl
  rw [hfin]
  have hwl : way.length ≤ 10000000 := by omega
  have hpl2 : t.parts.length ≤ 10000000 := by omega
  have hp0 := hp.mono (A' := fun b => ¬ A b ∧ b < W.heap.size) fun b hb hlt => ⟨hb, hlt⟩
  have hw0 := hw.mono (A' := fun b => ¬ A b ∧ b < W.heap.size) fun b hb hlt => ⟨hb, hlt⟩
  obtain ⟨wa, wc, hwf⟩ := hw.rep.formM
  subst hwf
  obtain ⟨FS, hFS⟩ : ∃ f : Nat → σ, ∀ k, foldN step s ((t, way) :: LTree.nodesL way (t.parts.take k) 0) = f k := ⟨fun k => _, fun k => rfl⟩
  rw [hFS]
  rw [hFS] at hst0
  simp only [hFS] at hnl hszk
  clear hFS
  have HC := Lib.hid hcall; have HB0 := Lib.hid hB0; have HBX := Lib.hid hbx; have HP := Lib.hid hp0; have HW := Lib.hid hw0; have HIH := Lib.hid hIH; have HNL := Lib.hid hnl; have HT := Lib.hid hT; have HL0 := Lib.hid hlt0; have HST0 := Lib.hid hst0; have HSZ := Lib.hid hszk
  clear hszk hsz hcall hB0 hbx hp0 hw0 hIH hnl hT hI hu hp hw hok ih hne hlt0 hns hpl hlen hfin hst0
  go_enter Tryz.func56, Tryz.ntmps56
  go_wp2_with fail
  go_at_fn g
  refine HC.out.mono ?_
  rintro e w1 ⟨rfl, A1, hI1, hF1, hA1⟩
  rw [HST0.out] at hI1
  have hlt1 := (Array.getElem?_eq_some_iff.1 HBX.out).1
  have hbx1 := (hF1.block _ hlt1 (fun ha => by have := HL0.out _ ha; omega)).trans HBX.out
  have x2 : w1.cell? ⟨W.heap.size, 2, none⟩ = some (.slice pa t.parts.length pc) := by simp [World.cell?, hbx1]
  have hF01 : Fr A W w1 := (Fr.of_below HB0.out).trans hF1
  have hA01 : ∀ b, A1 b → A b ∨ W.heap.size ≤ b := fun b hb => (hA1 b hb).imp id (fun h => by have := HB0.out.size; omega)
  have HI1 := Lib.hid hI1; have HF01 := Lib.hid hF01; have HA01 := Lib.hid hA01
  clear hI1 hF1 hA1 hF01 hA01 hbx1 HC HBX HB0 hlt1
  go_wp2
  go_loopw [15] (fun i wr => ∃ (k : Nat) (A' : Nat → Prop), k ≤ t.parts.length ∧ i = .int .i64 k ∧ Aside (I wr (FS k) A') ∧ Aside (Fr A W wr) ∧ Aside (∀ b, A' b → A b ∨ W.heap.size ≤ b)) (fun i _ => t.parts.length - (intOf i).toNat)
  case atStart => exact ⟨0, A1, by omega, rfl, ⟨HI1.out⟩, ⟨HF01.out⟩, ⟨HA01.out⟩⟩
  case round =>
    obtain ⟨k, A', hk, rfl, hI, hF, hA⟩ := hrel
    have hszr := hF.out.size
    by_cases hlt : k < t.parts.length
    · have hP := HP.out.fr hF.out (fun b hb => hb.1)
      obtain ⟨_, _, ep, _, hpc⟩ := tree_cells hP
      injection ep with ep1 _ ep3
      subst ep1 ep3
      obtain ⟨b, off, xa, xc, ya, yc, rfl, e0, e1, e2, r1, r2⟩ := hpc wr (Below.refl _ _) k hlt
      have hnot : ∀ b, (¬ A b ∧ b < W.heap.size) → ¬ A' b := fun b hb ha => by rcases hA.out b ha with h | h; · exact hb.1 h
                                                                               · omega
      have hlA := HT.out.lt _ _ _ hI.out
      have hik := HIH.out k hlt
      have hnk := HNL.out k hlt
      have hzk := HSZ.out k hlt
      generalize t.parts[k] = x at *
      have hBa : Below wr.heap.size wr (wr.alloc (.cells #[.string x.op, .slice xa x.users.length xc, .slice ya x.parts.length yc] 32)) := (Below.refl _ wr).alloc (Nat.le_refl _) _
      have hpb : (wr.alloc (.cells #[.string x.op, .slice xa x.users.length xc, .slice ya x.parts.length yc] 32)).heap[wr.heap.size]? = some (.cells #[.string x.op, .slice xa x.users.length xc, .slice ya x.parts.length yc] 32) := heap_alloc_at rfl
      have hwk : ∀ w' v', Below wr.heap.size wr w' → OwnL w' (wr.heap.size + 1) 3 1 natCells v' (way ++ [k]) → Calls Tryz.prog 56 #[.agg #[.string x.op, .slice xa x.users.length xc, .slice ya x.parts.length yc], v', .func (.func g) #[] lb] w' fun e W' => e = .returned (.tuple #[]) ∧ ∃ A2, I W' (FS (k + 1)) A2 ∧ Fr A' w' W' ∧ ∀ b, A2 b → A' b ∨ w'.heap.size ≤ b := fun w' v' hb' hO' => by
        rw [hnk]
        refine hik w' (FS k) A' _ _ _ (HT.out.next _ _ _ _ hI.out hb') hzk ((r1.mono fun b hb _ => hnot b hb).old hb') ((r2.mono fun b hb _ => hnot b hb).old hb') ((way_own hO' (by simp) (by simp; omega)).mono fun b hb _ ha => ?_)
        have := hlA b ha
        omega
      have hcl : ∀ w', Below wr.heap.size wr w' → Calls Tryz.prog 99 #[.slice wa way.length wc] w' fun e w2 => ∃ a c, e = .returned (.slice a way.length c) ∧ OwnL w2 w'.heap.size 3 1 natCells (.slice a way.length c) way ∧ Below w'.heap.size w' w2 := fun w' hb' =>
        clone_way ((HW.out.fr hF.out (fun b hb => hb.1)).keep fun b _ hb => hb'.block b hb) (by omega)
      have HWK := Lib.hid hwk; have HCL := Lib.hid hcl; have HBA := Lib.hid hBa; have HPB := Lib.hid hpb
      clear hwk hcl hBa hpb hnot hlA hik hnk hzk r1 r2 hP hpc
      go_wp2_with fail
      generalize wr.alloc (.cells #[.string x.op, .slice xa x.users.length xc, .slice ya x.parts.length yc] 32) = w1 at *
      clear e0 e1 e2
      have hplt := (Array.getElem?_eq_some_iff.1 HPB.out).1
      have hpcs : ∀ w', Below w1.heap.size w1 w' → w'.cell? ⟨wr.heap.size, 0, none⟩ = some (.string x.op) ∧ w'.cell? ⟨wr.heap.size, 1, none⟩ = some (.slice xa x.users.length xc) ∧ w'.cell? ⟨wr.heap.size, 2, none⟩ = some (.slice ya x.parts.length yc) := fun w' hb' => by
        have := (hb'.block _ hplt).trans HPB.out
        refine ⟨?_, ?_, ?_⟩ <;> simp [World.cell?, this]
      have hs1 := HBA.out.size
      have hB1a : Below w1.heap.size w1 w1.drew := (Below.refl _ _).drew
      have hB1b : Below w1.heap.size w1 ((w1.alloc (.cells #[.int .i64 k] 3)).drew) := ((Below.refl _ _).alloc (Nat.le_refl _) _).drew
      have HB1a := Lib.hid hB1a; have HB1b := Lib.hid hB1b; have HPC := Lib.hid hpcs
      obtain ⟨q0, q1, q2⟩ := hpcs _ hB1a
      obtain ⟨q3, q4, q5⟩ := hpcs _ (Below.refl _ _)
      have hks : (k : Int) ≤ 10000000 := by omega
      clear hB1a hB1b hpcs
      go_region_law (first
        | (go_simp; go_at_call 99; refine (HCL.out _ (by first | exact HBA.out.trans (HB1a.out.mono hs1) | exact HBA.out.trans (HB1b.out.mono hs1))).mono ?_; rintro r w2 ⟨ca, cc, rfl, hO2, hb2⟩; have hB12 : Below w1.heap.size w1 w2 := (by first | exact HB1a.out.trans (hb2.mono HB1a.out.size) | exact HB1b.out.trans (hb2.mono HB1b.out.size)); obtain ⟨p0, p1, p2⟩ := HPC.out _ hB12; obtain ⟨p3, p4, p5⟩ := HPC.out _ (hB12.alloc hB12.size (.cells #[.int .i64 k] 3)); have HO2 := Lib.hid (show OwnL w2 w1.heap.size 3 1 natCells (.slice ca way.length cc) way from hO2.rebase (by simp)); have HB12 := Lib.hid hB12; try (have hNb : w2.heap[w1.heap.size]? = some (.cells #[.int .i64 k] 3) := (hb2.block _ (by simp)).trans (heap_alloc_at rfl)); clear hO2 hb2 hB12; try go_wp2_with fail)
        | (go_simp; go_at_call 56; refine (HWK.out _ _ (HBA.out.trans (HB14.out.mono hs1)) HO4.out).mono ?_; rintro r w5 ⟨rfl, A2, hI2, hF2, hA2⟩; try go_wp2_with fail)
        | ((first
            | refine step_app1 (W := w2.alloc (.cells #[.int .i64 k] 3)) w1.heap.size rfl _ _ _ 3 _ 1 8 rfl Tryz.underlying56 info_int rfl (by omega) (by omega) natCells natCells_len natCells_one (.slice ca way.length cc) way k rfl (N := w2.heap.size) rfl (heap_alloc_at rfl) (HO2.out.below ((Below.refl _ _).alloc (Nat.le_refl _) _)) (by have := HB12.out.size; simp; omega) (by omega) ?_
            | refine step_app1 (W := w2) w1.heap.size rfl _ _ _ 3 _ 1 8 rfl Tryz.underlying56 info_int rfl (by omega) (by omega) natCells natCells_len natCells_one (.slice ca way.length cc) way k rfl (N := w1.heap.size) rfl hNb HO2.out (by have := HB12.out.size; omega) (by omega) ?_); intro a1 c1 w4 hO4 hF4; have hB14 : Below w1.heap.size w1 w4 := (by first
            | exact (HB12.out.alloc HB12.out.size (.cells #[.int .i64 k] 3)).trans (hF4.1.below (B := w1.heap.size) (by have := HB12.out.size; simp; omega) (fun i hi e => by have := (HO2.out.block i e).1; have := hplt; omega))
            | exact HB12.out.trans (hF4.1.below (B := w1.heap.size) (by have := HB12.out.size; omega) (fun i hi e => by have := (HO2.out.block i e).1; omega))); obtain ⟨t0, t1, t2⟩ := HPC.out _ hB14; have HO4 := Lib.hid (hO4.rebase (base' := wr.heap.size + 1) (by omega)); have HB14 := Lib.hid hB14; clear hO4 hF4 hB14))
      all_goals
        have hw4 := HB14.out.size
        have hF5 : Fr A W w5 := (hF.out.trans (Fr.of_below (HBA.out.trans (HB14.out.mono hs1)))).past hF2 (fun i hi ha => (hA.out i ha).resolve_right (by omega))
        have hA5 : ∀ b, A2 b → A b ∨ W.heap.size ≤ b := fun b hb => by
          rcases hA2 b hb with h | h
          · exact hA.out b h
          · right; omega
        have HI5 := Lib.hid hI2; have HF5 := Lib.hid hF5; have HA5 := Lib.hid hA5
        clear hI2 hF5 hA5 hF2 hA2
        go_wp2
        first
          | exact ⟨⟨k + 1, A2, by omega, by go_num, ⟨HI5.out⟩, ⟨HF5.out⟩, ⟨HA5.out⟩⟩, by simp [intOf] <;> omega⟩
          | (go_roundw
             case rel => exact ⟨k + 1, A2, by omega, by go_num, ⟨HI5.out⟩, ⟨HF5.out⟩, ⟨HA5.out⟩⟩
             case measure => simp [intOf]; omega)
    · obtain rfl : k = t.parts.length := by omega
      go_wp2
      go_end0
      exact ⟨rfl, A', hI.out, hF.out, hA.out⟩
end Go.Proofs.YtnfkjodiielidaaGreatDoor
namespace Go.Proofs.YtnfkjodiielidaaGreatDoor
set_option linter.unusedVariables false
set_option linter.unusedSimpArgs false
open Go.RowKit

theorem box1 {W : World} {b : Nat} {v : Value} {t : TypeId} (h : W.heap[b]? = some (.cells #[v] t)) : W.cell? ⟨b, 0, none⟩ = some v ∧ W.frozen? ⟨b, 0, none⟩ = false := by
  constructor <;> simp [World.cell?, World.frozen?, h]
/-- A cell written, that was there. -/
theorem cell_put {W : World} {b : Nat} {v v' : Value} (h : W.cell? ⟨b, 0, none⟩ = some v) (hz : W.frozen? ⟨b, 0, none⟩ = false) : (W.setCell ⟨b, 0, none⟩ v').cell? ⟨b, 0, none⟩ = some v' ∧ (W.setCell ⟨b, 0, none⟩ v').frozen? ⟨b, 0, none⟩ = false := by
  obtain ⟨cs, ty, fr, hh⟩ : ∃ cs ty fr, W.heap[b]? = some (.cells cs ty fr) := by
    unfold World.cell? at h
    cases hx : W.heap[b]? with
    | none => simp [hx] at h
    | some o =>
      cases o with
      | cells cs ty fr => exact ⟨cs, ty, fr, rfl⟩
      | _ => simp [hx] at h
  have hb' : (W.setCell ⟨b, 0, none⟩ v').heap[b]? = _ := setCells_block b ty fr [v'] 0 _ cs hh
  simp only [World.cell?, hh] at h
  simp only [World.frozen?, hh] at hz
  have hlc : 0 < cs.size := (Array.getElem?_eq_some_iff.1 h).1
  refine ⟨?_, ?_⟩
  · simp only [World.cell?, hb', Go.Sort.setMany]
    simp [hlc]
  · simp only [World.frozen?, hb']; exact hz
/-- A count's box. -/
def CountAt (nb : Nat) (W : World) (s : Int) (A : Nat → Prop) : Prop := A = (fun b => b = nb) ∧ W.cell? ⟨nb, 0, none⟩ = some (.int .i64 s) ∧ W.frozen? ⟨nb, 0, none⟩ = false
set_option maxRecDepth 100000 in
set_option maxHeartbeats 4000000 in
theorem size_take (nb : Nat) : TakeOk (σ := Int) 57 #[.pointer (some ⟨nb, 0, none⟩)] (CountAt nb) (fun s _ _ => wrap64 (s + 1)) (fun _ _ => True) (fun _ => 0) where
  grow s t way := by omega
  next W W' s A h hb := by
    obtain ⟨h1, h2, h3⟩ := h
    have hl := World.block_lt_of_cell? _ _ h2
    exact ⟨h1, (hb.cell (p := ⟨nb, 0, none⟩) hl).trans h2, (hb.frozen (p := ⟨nb, 0, none⟩) hl).trans h3⟩
  lt W s A h b hb := by
    obtain ⟨rfl, h2, _⟩ := h
    have hl : nb < W.heap.size := World.block_lt_of_cell? _ _ h2
    have : b = nb := hb
    omega
  take W s A t us ps wv way h _ _ hu hp hw := by
    obtain ⟨rfl, h2, h3⟩ := h
    obtain ⟨ua, uc, huf⟩ := hu.formM
    obtain ⟨pa, pc, hpf⟩ := hp.formM
    subst huf hpf
    obtain ⟨wa, wc, hwf⟩ := hw.rep.formM
    subst hwf
    have hl := World.block_lt_of_cell? _ _ h2
    have hB : Below W.heap.size W (W.alloc (.cells #[.string t.op, .slice ua t.users.length uc, .slice pa t.parts.length pc] 32)) := (Below.refl _ W).alloc (Nat.le_refl _) _
    have c0 := (hB.cell (p := ⟨nb, 0, none⟩) hl).trans h2
    have f0 := (hB.frozen (p := ⟨nb, 0, none⟩) hl).trans h3
    have hF : Fr (fun k => k = nb) W (W.setCell ⟨nb, 0, none⟩ (.int .i64 (wrap64 (s + 1)))) := fr_setCells (g := nb) [.int .i64 (wrap64 (s + 1))] 0 W
    obtain ⟨p1, p2⟩ := cell_put (v' := .int .i64 (wrap64 (s + 1))) h2 h3
    have hl2 : nb < (W.setCell ⟨nb, 0, none⟩ (.int .i64 (wrap64 (s + 1)))).heap.size := Nat.lt_of_lt_of_le hl hF.size
    have hB2 : Below (W.setCell ⟨nb, 0, none⟩ (.int .i64 (wrap64 (s + 1)))).heap.size (W.setCell ⟨nb, 0, none⟩ (.int .i64 (wrap64 (s + 1)))) ((W.setCell ⟨nb, 0, none⟩ (.int .i64 (wrap64 (s + 1)))).alloc (.cells #[.string t.op, .slice ua t.users.length uc, .slice pa t.parts.length pc] 32)) := (Below.refl _ _).alloc (Nat.le_refl _) _
    have hW' := And.intro ((hB2.cell (p := ⟨nb, 0, none⟩) hl2).trans p1) ((hB2.frozen (p := ⟨nb, 0, none⟩) hl2).trans p2)
    have hF2 := hF.trans (Fr.of_below hB2)
    have HF := Lib.hid hF2; have HW := Lib.hid hW'
    clear hB hF hF2 hB2 p1 p2 hl2 hW' hu hp hw
    show Calls Tryz.prog _ (#[.agg #[.string t.op, .slice ua t.users.length uc, .slice pa t.parts.length pc], .slice wa way.length wc, .pointer (some ⟨nb, 0, none⟩)]) W _
    go_enter Tryz.func57, Tryz.ntmps57
    go_wp2
    go_end0
    refine ⟨rfl, _, ⟨rfl, ?_, ?_⟩, HF.out, fun b hb => .inl hb⟩
    · exact HW.out.1
    · exact HW.out.2
theorem count_nodes : ∀ (L : List (LTree × List Nat)) (s : Int), 0 ≤ s → s + L.length ≤ 1000000000000 → foldN (fun s _ _ => wrap64 (s + 1)) s L = s + L.length := by
  intro L
  induction L with
  | nil => intro s _ _; simp [foldN]
  | cons p L ih =>
    intro s h0 h1
    simp only [List.length_cons] at h1 ⊢
    have hw : wrap64 (s + 1) = s + 1 := by unfold wrap64; omega
    have := ih (s + 1) (by omega) (by omega)
    simp only [foldN, List.foldl_cons] at this ⊢
    rw [hw, this]
    omega
set_option maxRecDepth 100000 in
set_option maxHeartbeats 4000000 in
theorem expand_Size {A : Nat → Prop} {w : World} {t : LTree} {us ps : Value} (hu : RepD A w (.slice 3 (t.users.map LUser.d)) us) (hp : RepD A w (.slice 3 (t.parts.map LTree.d)) ps) (hn : t.natSize ≤ 2000000) :
    Calls Tryz.prog 25 #[.agg #[.string t.op, us, ps]] w fun e w' => e = .returned (.int .i64 t.natSize) ∧ Below w.heap.size w w' := by
  obtain ⟨ua, uc, huf⟩ := hu.formM
  obtain ⟨pa, pc, hpf⟩ := hp.formM
  subst huf hpf
  have hB : Below w.heap.size w ((w.alloc (.cells #[.string t.op, .slice ua t.users.length uc, .slice pa t.parts.length pc] 32)).alloc (.cells #[.int .i64 0] 3)) := ((Below.refl _ w).alloc (Nat.le_refl _) _).alloc (by simp) _
  have hI : CountAt (w.heap.size + 1) ((w.alloc (.cells #[.string t.op, .slice ua t.users.length uc, .slice pa t.parts.length pc] 32)).alloc (.cells #[.int .i64 0] 3)) 0 (fun b => b = w.heap.size + 1) := by
    have hb : ((w.alloc (.cells #[.string t.op, .slice ua t.users.length uc, .slice pa t.parts.length pc] 32)).alloc (.cells #[.int .i64 0] 3)).heap[w.heap.size + 1]? = some (.cells #[.int .i64 0] 3) := heap_alloc_at (by simp)
    exact ⟨rfl, (box1 hb).1, (box1 hb).2⟩
  have hu2 := ((hu.mono (A' := fun b => b < w.heap.size) fun b _ hlt => hlt).old hB).mono (A' := fun b => ¬ b = w.heap.size + 1) fun b hb _ => by omega
  have hp2 := ((hp.mono (A' := fun b => b < w.heap.size) fun b _ hlt => hlt).old hB).mono (A' := fun b => ¬ b = w.heap.size + 1) fun b hb _ => by omega
  have hcall := expand_walk (size_take (w.heap.size + 1)) (enters_of Tryz.func57 (by kernel_rfl) rfl) t [] (fun _ _ => trivial) (by simp; omega) _ 0 _ _ _ (.slice none 0 0) hI (by simp; omega) hu2 hp2 ⟨.nil _ _ _, fun _ => rfl⟩
  rw [count_nodes _ 0 (by omega) (by rw [LTree.nodes_length]; omega), LTree.nodes_length, Int.zero_add] at hcall
  have HC := Lib.hid hcall; have HB := Lib.hid hB
  clear hu hp hB hI hu2 hp2 hcall
  go_enter Tryz.func25, Tryz.ntmps25
  go_wp2_with fail
  refine HC.out.mono ?_
  rintro e w1 ⟨rfl, A1, ⟨_, hc, _⟩, hF, _⟩
  have hb1 := HB.out.trans (hF.below HB.out.size fun k hk e => by omega)
  clear hF HB HC
  go_wp2
  go_ret
  exact ⟨rfl, hb1⟩
end Go.Proofs.YtnfkjodiielidaaGreatDoor

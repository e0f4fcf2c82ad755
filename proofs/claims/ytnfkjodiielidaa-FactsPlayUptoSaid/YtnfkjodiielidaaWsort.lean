/- slices.SortFunc at tuples and at users, laid by the shelf's make (its plain text); a slice of the call's own, sorted. -/
import Derived.Test.YtnfkjodiielidaaWcmp
import Derived.Shelf.SlSortCmp.NoneTotal
namespace Go.Proofs.Ytnfkjodiielidaa
set_option linter.unusedVariables false
set_option linter.unusedSimpArgs false
open Go.RowKit Go.Sort Go.Shelf

def sortU_ren : Go.Shelf.Ren := ⟨fun | 6 => 31 | 15 => 52 | 14 => 51 | 28 => 72 | 29 => 73 | 20 => 64 | 21 => 65 | 22 => 66 | 23 => 67 | 24 => 68 | 25 => 69 | 26 => 70 | 27 => 71 | 46 => 92 | 47 => 93 | 48 => 94 | 49 => 95 | 50 => 96 | 57 => 104 | n => n, fun | 22 => 44 | 24 => 30 | 25 => 66 | 3 => 3 | 39 => 77 | 0 => 0 | 53 => 94 | 55 => 96 | 4 => 4 | 46 => 87 | 45 => 86 | 50 => 91 | 5 => 5 | 9 => 9 | 66 => 108 | 70 => 112 | 76 => 118 | 77 => 119 | n => n, fun | n => n⟩
theorem sortU : Go.Proofs.SlLaysF0.n6 Try.prog sortU_ren := {
  mixed := by kernel_rfl
  f6 := ⟨Try.f31.name, by decide, Try.func31.trans (congrArg some (by kernel_rfl))⟩
  f14 := ⟨Try.f51.name, by decide, Try.func51.trans (congrArg some (by kernel_rfl))⟩
  f15 := Try.func52.trans (congrArg some (by kernel_rfl))
  f20 := ⟨Try.f64.name, by decide, Try.func64.trans (congrArg some (by kernel_rfl))⟩
  f21 := ⟨Try.f65.name, by decide, Try.func65.trans (congrArg some (by kernel_rfl))⟩
  f22 := ⟨Try.f66.name, by decide, Try.func66.trans (congrArg some (by kernel_rfl))⟩
  f23 := ⟨Try.f67.name, by decide, Try.func67.trans (congrArg some (by kernel_rfl))⟩
  f24 := ⟨Try.f68.name, by decide, Try.func68.trans (congrArg some (by kernel_rfl))⟩
  f25 := ⟨Try.f69.name, by decide, Try.func69.trans (congrArg some (by kernel_rfl))⟩
  f26 := ⟨Try.f70.name, by decide, Try.func70.trans (congrArg some (by kernel_rfl))⟩
  f27 := ⟨Try.f71.name, by decide, Try.func71.trans (congrArg some (by kernel_rfl))⟩
  f28 := Try.func72.trans (congrArg some (by kernel_rfl))
  f29 := Try.func73.trans (congrArg some (by kernel_rfl))
  f46 := ⟨Try.f92.name, by decide, Try.func92.trans (congrArg some (by kernel_rfl))⟩
  f47 := Try.func93.trans (congrArg some (by kernel_rfl))
  f48 := Try.func94.trans (congrArg some (by kernel_rfl))
  f49 := ⟨Try.f95.name, by decide, Try.func95.trans (congrArg some (by kernel_rfl))⟩
  f50 := ⟨Try.f96.name, by decide, Try.func96.trans (congrArg some (by kernel_rfl))⟩
  f57 := ⟨Try.f104.name, by decide, Try.func104.trans (congrArg some (by kernel_rfl))⟩
  t0 := Try.underlying0
  a0 := Try.isAgg0
  z0 := Try.sizeOf0
  v0 := Try.zeroValue0
  t3 := Try.underlying3
  a3 := Try.isAgg3
  z3 := Try.sizeOf3
  v3 := Try.zeroValue3
  t4 := Try.underlying4
  a4 := Try.isAgg4
  z4 := Try.sizeOf4
  v4 := Try.zeroValue4
  t5 := Try.underlying5
  a5 := Try.isAgg5
  z5 := Try.sizeOf5
  v5 := Try.zeroValue5
  t9 := Try.underlying9
  a9 := Try.isAgg9
  z9 := Try.sizeOf9
  v9 := Try.zeroValue9
  t22 := Try.underlying44
  a22 := Try.isAgg44
  z22 := Try.sizeOf44
  v22 := Try.zeroValue44
  t25 := Try.underlying66
  a25 := Try.isAgg66
  z25 := Try.sizeOf66
  v25 := Try.zeroValue66
  t39 := Try.underlying77
  a39 := Try.isAgg77
  z39 := Try.sizeOf77
  v39 := Try.zeroValue77
  t45 := Try.underlying86
  a45 := Try.isAgg86
  z45 := Try.sizeOf86
  v45 := Try.zeroValue86
  t46 := Try.underlying87
  a46 := Try.isAgg87
  z46 := Try.sizeOf87
  v46 := Try.zeroValue87
  t50 := Try.underlying91
  a50 := Try.isAgg91
  z50 := Try.sizeOf91
  v50 := Try.zeroValue91
  t53 := Try.underlying94
  a53 := Try.isAgg94
  z53 := Try.sizeOf94
  v53 := Try.zeroValue94
  t55 := Try.underlying96
  a55 := Try.isAgg96
  z55 := Try.sizeOf96
  v55 := Try.zeroValue96
  t66 := Try.underlying108
  a66 := Try.isAgg108
  z66 := Try.sizeOf108
  v66 := Try.zeroValue108
  t70 := Try.underlying112
  a70 := Try.isAgg112
  z70 := Try.sizeOf112
  v70 := Try.zeroValue112
  t76 := Try.underlying118
  a76 := Try.isAgg118
  z76 := Try.sizeOf118
  v76 := Try.zeroValue118
  t77 := Try.underlying119
  a77 := Try.isAgg119
  z77 := Try.sizeOf119
  v77 := Try.zeroValue119 }
def sortT_ren : Go.Shelf.Ren := ⟨fun | 6 => 48 | 15 => 52 | 14 => 62 | 28 => 72 | 29 => 73 | 20 => 84 | 21 => 85 | 22 => 86 | 23 => 87 | 24 => 88 | 25 => 89 | 26 => 90 | 27 => 91 | 46 => 101 | 47 => 93 | 48 => 94 | 49 => 102 | 50 => 103 | 57 => 106 | n => n, fun | 22 => 22 | 24 => 32 | 25 => 74 | 3 => 3 | 39 => 77 | 0 => 0 | 53 => 94 | 55 => 96 | 4 => 4 | 46 => 87 | 45 => 86 | 50 => 91 | 5 => 5 | 9 => 9 | 66 => 108 | 70 => 112 | 76 => 118 | 77 => 119 | n => n, fun | n => n⟩
theorem sortT : Go.Proofs.SlLaysF0.n6 Try.prog sortT_ren := {
  mixed := by kernel_rfl
  f6 := ⟨Try.f48.name, by decide, Try.func48.trans (congrArg some (by kernel_rfl))⟩
  f14 := ⟨Try.f62.name, by decide, Try.func62.trans (congrArg some (by kernel_rfl))⟩
  f15 := Try.func52.trans (congrArg some (by kernel_rfl))
  f20 := ⟨Try.f84.name, by decide, Try.func84.trans (congrArg some (by kernel_rfl))⟩
  f21 := ⟨Try.f85.name, by decide, Try.func85.trans (congrArg some (by kernel_rfl))⟩
  f22 := ⟨Try.f86.name, by decide, Try.func86.trans (congrArg some (by kernel_rfl))⟩
  f23 := ⟨Try.f87.name, by decide, Try.func87.trans (congrArg some (by kernel_rfl))⟩
  f24 := ⟨Try.f88.name, by decide, Try.func88.trans (congrArg some (by kernel_rfl))⟩
  f25 := ⟨Try.f89.name, by decide, Try.func89.trans (congrArg some (by kernel_rfl))⟩
  f26 := ⟨Try.f90.name, by decide, Try.func90.trans (congrArg some (by kernel_rfl))⟩
  f27 := ⟨Try.f91.name, by decide, Try.func91.trans (congrArg some (by kernel_rfl))⟩
  f28 := Try.func72.trans (congrArg some (by kernel_rfl))
  f29 := Try.func73.trans (congrArg some (by kernel_rfl))
  f46 := ⟨Try.f101.name, by decide, Try.func101.trans (congrArg some (by kernel_rfl))⟩
  f47 := Try.func93.trans (congrArg some (by kernel_rfl))
  f48 := Try.func94.trans (congrArg some (by kernel_rfl))
  f49 := ⟨Try.f102.name, by decide, Try.func102.trans (congrArg some (by kernel_rfl))⟩
  f50 := ⟨Try.f103.name, by decide, Try.func103.trans (congrArg some (by kernel_rfl))⟩
  f57 := ⟨Try.f106.name, by decide, Try.func106.trans (congrArg some (by kernel_rfl))⟩
  t0 := Try.underlying0
  a0 := Try.isAgg0
  z0 := Try.sizeOf0
  v0 := Try.zeroValue0
  t3 := Try.underlying3
  a3 := Try.isAgg3
  z3 := Try.sizeOf3
  v3 := Try.zeroValue3
  t4 := Try.underlying4
  a4 := Try.isAgg4
  z4 := Try.sizeOf4
  v4 := Try.zeroValue4
  t5 := Try.underlying5
  a5 := Try.isAgg5
  z5 := Try.sizeOf5
  v5 := Try.zeroValue5
  t9 := Try.underlying9
  a9 := Try.isAgg9
  z9 := Try.sizeOf9
  v9 := Try.zeroValue9
  t22 := Try.underlying22
  a22 := Try.isAgg22
  z22 := Try.sizeOf22
  v22 := Try.zeroValue22
  t25 := Try.underlying74
  a25 := Try.isAgg74
  z25 := Try.sizeOf74
  v25 := Try.zeroValue74
  t39 := Try.underlying77
  a39 := Try.isAgg77
  z39 := Try.sizeOf77
  v39 := Try.zeroValue77
  t45 := Try.underlying86
  a45 := Try.isAgg86
  z45 := Try.sizeOf86
  v45 := Try.zeroValue86
  t46 := Try.underlying87
  a46 := Try.isAgg87
  z46 := Try.sizeOf87
  v46 := Try.zeroValue87
  t50 := Try.underlying91
  a50 := Try.isAgg91
  z50 := Try.sizeOf91
  v50 := Try.zeroValue91
  t53 := Try.underlying94
  a53 := Try.isAgg94
  z53 := Try.sizeOf94
  v53 := Try.zeroValue94
  t55 := Try.underlying96
  a55 := Try.isAgg96
  z55 := Try.sizeOf96
  v55 := Try.zeroValue96
  t66 := Try.underlying108
  a66 := Try.isAgg108
  z66 := Try.sizeOf108
  v66 := Try.zeroValue108
  t70 := Try.underlying112
  a70 := Try.isAgg112
  z70 := Try.sizeOf112
  v70 := Try.zeroValue112
  t76 := Try.underlying118
  a76 := Try.isAgg118
  z76 := Try.sizeOf118
  v76 := Try.zeroValue118
  t77 := Try.underlying119
  a77 := Try.isAgg119
  z77 := Try.sizeOf119
  v77 := Try.zeroValue119 }

theorem length_flat {α : Type} {enc : α → List Value} {k : Nat} (henc : ∀ x, (enc x).length = k) (xs : List α) : (xs.flatMap enc).length = xs.length * k := by
  induction xs with
  | nil => simp
  | cons x xs ih => rw [List.flatMap_cons, List.length_append, henc, ih, List.length_cons, Nat.add_mul]; omega
section
variable {α : Type} [Inhabited α] {enc : α → List Value} {k : Nat}
theorem flatK_toList (henc : ∀ x, (enc x).length = k) (hk : 0 < k) (d : Array α) : (flatK enc k d).toList = d.toList.flatMap enc := by
  have hlen : (d.toList.flatMap enc).length = d.size * k := by
    rw [length_flat henc]; simp
  apply List.ext_getElem?
  intro t
  by_cases ht : t < d.size * k
  · have h1 : t / k < d.size := Nat.div_lt_of_lt_mul (by rwa [Nat.mul_comm])
    have h2 : t % k < k := Nat.mod_lt _ hk
    have e1 := getD_flatMap enc k henc d.toList (t / k) (t % k) (by simpa using h1) h2 undef
    rw [show t / k * k + t % k = t by rw [Nat.mul_comm]; exact Nat.div_add_mod t k] at e1
    have e2 := get_flatK enc k d t ht
    have h3 : t < (flatK enc k d).size := by simpa using ht
    have h4 : t < (d.toList.flatMap enc).length := by rw [hlen]; exact ht
    rw [List.getElem?_eq_getElem (by simpa using h3), List.getElem?_eq_getElem h4]
    rw [getElem!_pos _ t h3] at e2
    rw [List.getD_eq_getElem?_getD, List.getElem?_eq_getElem h4] at e1
    simp only [Option.getD_some] at e1
    rw [e1, Array.getElem_toList, e2]
    have h5 : t % k < (enc d[t / k]).length := by rw [henc]; exact h2
    rw [getElem!_pos _ (t / k) h1, getElem!_pos _ (t % k) h5]
    simp [List.getD_eq_getElem?_getD, henc, h2]
  · rw [List.getElem?_eq_none (by simpa using Nat.le_of_not_lt ht), List.getElem?_eq_none (by rw [hlen]; exact Nat.le_of_not_lt ht)]
theorem holdsK_of_own (henc : ∀ x, (enc x).length = k) (hk : 0 < k) {w : World} {base g cap : Nat} {e : TypeId} {xs : List α} (h : OwnL w base e k enc (.slice (some ⟨g, 0, none⟩) xs.length cap) xs) : HoldsK enc k w g 0 xs.toArray := by
  intro j hj
  have hj' : j < xs.length * k := by simpa using hj
  have hc := World.ownsRow.cellAt h j hj'
  refine ⟨?_, World.ownsRow.frozenAt h _⟩
  rw [Nat.zero_add, hc]
  have e1 := flatK_toList henc hk xs.toArray
  rw [← e1, getElem!_pos _ j hj]
  rw [List.getElem?_eq_getElem (by simpa using hj)]
  rfl
theorem own_of_sorted (henc : ∀ x, (enc x).length = k) (hk : 0 < k) {w : World} {base g cap : Nat} {e : TypeId} {xs : List α} (h : OwnL w base e k enc (.slice (some ⟨g, 0, none⟩) xs.length cap) xs) (d : Array α) (hd : d.size = xs.length) (n : Nat) (os : Array Obj) :
    OwnL (sortWorldK enc k w g 0 n d os) base e k enc (.slice (some ⟨g, 0, none⟩) xs.length cap) d.toList := by
  have e1 := flatK_toList henc hk d
  rcases h.2 with ⟨h0, _⟩ | ⟨g', cap', cur, hv, hb, hh, hnc, hcap, hcs, htk⟩
  · cases h0
  · injection hv with hv1 hv2 hv3
    injection hv1 with hv1
    injection hv1 with hv1
    subst hv1; subst hv3
    have hlt := (Array.getElem?_eq_some_iff.1 hh).1
    have hF : (flatK enc k d).size = xs.length * k := by simp [hd]
    refine ⟨by rw [← e1]; simp, .inr ⟨g, cap, putCells id 0 (flatK enc k d) cur, by simp [hd], hb, ?_, by simpa [hd] using hnc, hcap, by simp [putCells, hcs], ?_⟩⟩
    · have e2 : (sortWorldK enc k w g 0 n d os).heap = (w.heap.modify g (onCells (putCells id 0 (flatK enc k d)))) ++ os := rfl
      rw [e2, Array.getElem?_append_left (by simpa using hlt), Array.getElem?_modify, if_pos rfl, hh]
      rfl
    · rw [← e1]
      have hle : xs.length * k ≤ cur.size := by rw [hcs]; exact Nat.mul_le_mul_right k hnc
      apply List.ext_getElem?
      intro t
      simp only [Array.length_toList, hd]
      by_cases ht : t < xs.length * k
      · rw [List.getElem?_take_of_lt ht]
        have ht2 : t < (flatK enc k d).size := by rw [hF]; exact ht
        rw [List.getElem?_eq_getElem (l := (flatK enc k d).toList) (by simpa using ht2), Array.getElem?_toList, Array.getElem?_eq_getElem (xs := putCells id 0 (flatK enc k d) cur) (by simp [putCells]; omega)]
        simp only [putCells, Array.getElem_mapIdx, Nat.zero_le, true_and, Nat.zero_add, Nat.sub_zero, id]
        rw [if_pos ht2, getElem!_pos _ t ht2]
        simp
      · rw [List.getElem?_eq_none (by simp only [List.length_take]; omega), List.getElem?_eq_none (by simpa [hd] using Nat.le_of_not_lt ht)]
theorem below_sorted {w : World} {base g : Nat} (hg : base ≤ g) (d : Array α) (n : Nat) (os : Array Obj) (hlt : g < w.heap.size) : RowKit.Below base w (sortWorldK enc k w g 0 n d os) := by
  refine ⟨rfl, rfl, rfl, ?_, fun j hj => ?_⟩
  · show w.heap.size ≤ ((w.heap.modify g _) ++ os).size
    simp
  · have e2 : (sortWorldK enc k w g 0 n d os).heap = (w.heap.modify g (onCells (putCells id 0 (flatK enc k d)))) ++ os := rfl
    rw [e2, Array.getElem?_append_left (by simp; omega), Array.getElem?_modify, if_neg (by omega)]
theorem cmpLays_of {P : Program} {g : Nat} {cf : α → α → Int} (hg : ∀ (x y : α) (W : World), Calls P g (#[.agg (enc x).toArray, .agg (enc y).toArray] ++ #[]) W fun e w' => e = .returned (.int .i64 (cf x y)) ∧ Grw W w') (blk off size : Nat) (w : World) : CmpLays P g #[] enc k cf blk off size w := by
  intro m os dk _ x y
  refine (hg x y _).mono fun e w' ⟨he, hG⟩ => ⟨he, w'.drawn - (sortWorldK enc k w blk off m dk os).drawn, w'.heap.extract (sortWorldK enc k w blk off m dk os).heap.size w'.heap.size, ?_⟩
  generalize sortWorldK enc k w blk off m dk os = W at hG
  obtain ⟨hb, hd⟩ := hG
  have h1 : w'.heap = W.heap ++ w'.heap.extract W.heap.size w'.heap.size := by
    apply Array.ext_getElem?
    intro j
    by_cases hj : j < W.heap.size
    · rw [Array.getElem?_append_left hj, hb.block j hj]
    · rw [Array.getElem?_append_right (by omega), Array.getElem?_extract]
      by_cases hj2 : j < w'.heap.size
      · rw [if_pos (by omega)]; congr 1; omega
      · rw [if_neg (by omega), Array.getElem?_eq_none (by omega)]
  have h2 : w'.drawn = W.drawn + (w'.drawn - W.drawn) := by omega
  obtain ⟨heap, tape, drawn, os', output⟩ := w'
  have h3 := hb.os; have h4 := hb.tape; have h5 := hb.output
  simp only at h1 h2 h3 h4 h5
  subst h3 h4 h5
  show (⟨heap, W.tape, drawn, W.os, W.output⟩ : World) = ⟨W.heap ++ heap.extract W.heap.size heap.size, W.tape, W.drawn + (drawn - W.drawn), W.os, W.output⟩
  rw [← h1, ← h2]
end

theorem ltOf_T : ltOf cmpT = tLess := by
  funext x y
  unfold ltOf cmpT
  split
  · rename_i h; simp [h]
  · rename_i h; split <;> simp_all
theorem ltOf_U : ltOf cmpU = uLess := by
  funext x y
  unfold ltOf cmpU
  split
  · rename_i h; simp [h]
  · rename_i h; split <;> simp_all
theorem swo_of_lin {α : Type} {lt : α → α → Bool} (L : Lin lt) : SWO lt where
  irrefl := L.irrefl
  trans := L.trans
  ntrans x y z h1 h2 := by
    cases h3 : lt x z with
    | false => rfl
    | true =>
      cases h4 : lt y x with
      | true => have := L.trans _ _ _ h4 h3; rw [h2] at this; cases this
      | false => have := L.tri _ _ h1 h4; subst this; rw [h2] at h3; cases h3
theorem perm_of_permIn {α : Type} [Inhabited α] {d d' : Array α} (h : PermIn 0 d.size d d') : d'.toList.Perm d.toList ∧ d'.size = d.size := by
  obtain ⟨h1, _, h3⟩ := h
  refine ⟨?_, h1⟩
  have e : ∀ (x : Array α), x.extract 0 x.size = x := fun x => by simp
  rw [e d] at h3
  have e2 : d'.extract 0 d.size = d' := by rw [← h1]; exact e d'
  rwa [e2] at h3
theorem pairwise_of_sortedIn {α : Type} [Inhabited α] {lt : α → α → Bool} {d : Array α} {n : Nat} (hn : n = d.size) (h : SortedIn lt 0 n d) : d.toList.Pairwise fun x y => lt y x = false := by
  rw [List.pairwise_iff_getElem]
  intro i j hi hj hij
  have hi' : i < d.size := by simpa using hi
  have hj' : j < d.size := by simpa using hj
  have := h i j (Nat.zero_le _) hij (by omega)
  rw [getElem!_pos _ i hi', getElem!_pos _ j hj'] at this
  simpa using this

/-- A slice of tuples of the call's own, sorted. -/
theorem sort_tuples {w : World} {base : Nat} {v : Value} {xs : List LTuple} (h : OwnL w base 32 6 LTuple.cells v xs) (hn : xs.Nodup) (hl : xs.length ≤ 140737488355328) :
    Calls Try.prog 48 #[v, .func (.func 49) #[] #[]] w fun e w' => e = .returned (.tuple #[]) ∧ OwnL w' base 32 6 LTuple.cells v (canon tLess xs) ∧ RowKit.Below base w w' := by
  rcases Nat.eq_zero_or_pos xs.length with h0 | h0
  · obtain rfl : xs = [] := List.eq_nil_of_length_eq_zero h0
    obtain ⟨a, c, rfl, _⟩ := h.form
    have hcon := AnyF.slices_SortFunc_none { sortT with } a c (.func (.func 49) #[] #[]) w
    exact hcon.mono fun e w' ⟨he, hw⟩ => ⟨he, by subst hw; exact h, by subst hw; exact RowKit.Below.refl _ _⟩
  · have hb := h.block
    obtain ⟨g, cap, rfl⟩ : ∃ g cap, v = .slice (some ⟨g, 0, none⟩) xs.length cap := by
      rcases h.2 with ⟨_, h1⟩ | ⟨g, cap, cur, hv, _⟩
      · omega
      · exact ⟨g, cap, hv⟩
    obtain ⟨hg1, hg2⟩ := hb g rfl
    have hcon := AnyQ.slices_SortFunc sortT 6 Try.isAgg32 Try.sizeOf32 LTuple.cells LTuple.len LTuple.one cmpT (by rw [ltOf_T]; exact swo_of_lin lin_tLess) 49 #[] g 0 cap xs.toArray w
      (enters_of Try.func49 (by kernel_rfl) rfl) (cmpLays_of (fun x y W => which1 x y W) _ _ _ _) (holdsK_of_own LTuple.len (by omega) h) hg2 (by simp; omega)
    have hcon' : Calls Try.prog 48 #[.slice (some ⟨g, 0, none⟩) xs.length cap, .func (.func 49) #[] #[]] w _ := hcon
    refine hcon'.mono fun e w' ⟨he, d', n, os, hp, hs, hw⟩ => ⟨he, ?_⟩
    obtain ⟨hp1, hp2⟩ := perm_of_permIn hp
    rw [ltOf_T] at hs
    have e : d'.toList = canon tLess xs := sorted_eq_canon lin_tLess (by simpa using hp1) hn (pairwise_of_sortedIn (by rw [hp2]) hs)
    subst hw
    have h1 := own_of_sorted LTuple.len (by omega) h d' (by simpa using hp2) n os
    rw [e] at h1
    exact ⟨h1, below_sorted hg1 d' n os hg2⟩
/-- A slice of users of the call's own, sorted: they may be the same more than once. -/
theorem sort_users (g : Nat) (hcl : ∀ (x y : LUser) (W : World), Calls Try.prog g (#[.agg x.cells.toArray, .agg y.cells.toArray] ++ #[]) W fun e w' => e = .returned (.int .i64 (cmpU x y)) ∧ Grw W w')
    (eg : ∀ args w, (callFunc g args).run Try.prog w = .ok (.enter g args) w) {w : World} {base : Nat} {v : Value} {xs : List LUser} (h : OwnL w base 30 3 LUser.cells v xs) (hl : xs.length ≤ 140737488355328) :
    Calls Try.prog 31 #[v, .func (.func g) #[] #[]] w fun e w' => e = .returned (.tuple #[]) ∧ ∃ ys : List LUser, ys.Perm xs ∧ ys.Pairwise (fun x y => uLess y x = false) ∧ OwnL w' base 30 3 LUser.cells v ys ∧ RowKit.Below base w w' := by
  rcases Nat.eq_zero_or_pos xs.length with h0 | h0
  · obtain rfl : xs = [] := List.eq_nil_of_length_eq_zero h0
    obtain ⟨a, c, rfl, _⟩ := h.form
    have hcon := AnyF.slices_SortFunc_none { sortU with } a c (.func (.func g) #[] #[]) w
    exact hcon.mono fun e w' ⟨he, hw⟩ => ⟨he, [], List.Perm.refl _, List.Pairwise.nil, by subst hw; exact h, by subst hw; exact RowKit.Below.refl _ _⟩
  · have hb := h.block
    obtain ⟨gb, cap, rfl⟩ : ∃ gb cap, v = .slice (some ⟨gb, 0, none⟩) xs.length cap := by
      rcases h.2 with ⟨_, h1⟩ | ⟨gb, cap, cur, hv, _⟩
      · omega
      · exact ⟨gb, cap, hv⟩
    obtain ⟨hg1, hg2⟩ := hb gb rfl
    have hcon := AnyQ.slices_SortFunc sortU 3 Try.isAgg30 Try.sizeOf30 LUser.cells LUser.len LUser.one cmpU (by rw [ltOf_U]; exact swo_of_lin lin_uLess) g #[] gb 0 cap xs.toArray w
      eg (cmpLays_of hcl _ _ _ _) (holdsK_of_own LUser.len (by omega) h) hg2 (by simp; omega)
    have hcon' : Calls Try.prog 31 #[.slice (some ⟨gb, 0, none⟩) xs.length cap, .func (.func g) #[] #[]] w _ := hcon
    refine hcon'.mono fun e w' ⟨he, d', n, os, hp, hs, hw⟩ => ⟨he, d'.toList, ?_⟩
    obtain ⟨hp1, hp2⟩ := perm_of_permIn hp
    rw [ltOf_U] at hs
    subst hw
    exact ⟨by simpa using hp1, pairwise_of_sortedIn (by rw [hp2]) hs, own_of_sorted LUser.len (by omega) h d' (by simpa using hp2) n os, below_sorted hg1 d' n os hg2⟩
end Go.Proofs.Ytnfkjodiielidaa

/- slices.SortFunc at tuples and at users, laid by the shelf's make (its plain text); a slice of the call's own, sorted. -/
import Derived.Test.YtnfkjodiielidaaGreatDoorWcmp
import Derived.Shelf.SlSortCmp.NoneTotal
namespace Go.Proofs.YtnfkjodiielidaaGreatDoor
set_option linter.unusedVariables false
set_option linter.unusedSimpArgs false
open Go.RowKit Go.Sort Go.Shelf

def sortU_ren : Go.Shelf.Ren := ⟨fun | 6 => 61 | 15 => 107 | 14 => 106 | 28 => 145 | 29 => 146 | 20 => 137 | 21 => 138 | 22 => 139 | 23 => 140 | 24 => 141 | 25 => 142 | 26 => 143 | 27 => 144 | 46 => 168 | 47 => 169 | 48 => 170 | 49 => 171 | 50 => 172 | 57 => 185 | n => n, fun | 22 => 29 | 24 => 25 | 25 => 110 | 3 => 3 | 39 => 147 | 0 => 0 | 53 => 172 | 55 => 174 | 4 => 4 | 46 => 165 | 45 => 164 | 50 => 169 | 5 => 5 | 9 => 9 | 66 => 193 | 70 => 197 | 76 => 208 | 77 => 209 | n => n, fun | n => n⟩
theorem sortU : Go.Proofs.SlLaysF0.n6 Tryz.prog sortU_ren := {
  mixed := by kernel_rfl
  f6 := ⟨Tryz.f61.name, by decide, Tryz.func61.trans (congrArg some (by kernel_rfl))⟩
  f14 := ⟨Tryz.f106.name, by decide, Tryz.func106.trans (congrArg some (by kernel_rfl))⟩
  f15 := Tryz.func107.trans (congrArg some (by kernel_rfl))
  f20 := ⟨Tryz.f137.name, by decide, Tryz.func137.trans (congrArg some (by kernel_rfl))⟩
  f21 := ⟨Tryz.f138.name, by decide, Tryz.func138.trans (congrArg some (by kernel_rfl))⟩
  f22 := ⟨Tryz.f139.name, by decide, Tryz.func139.trans (congrArg some (by kernel_rfl))⟩
  f23 := ⟨Tryz.f140.name, by decide, Tryz.func140.trans (congrArg some (by kernel_rfl))⟩
  f24 := ⟨Tryz.f141.name, by decide, Tryz.func141.trans (congrArg some (by kernel_rfl))⟩
  f25 := ⟨Tryz.f142.name, by decide, Tryz.func142.trans (congrArg some (by kernel_rfl))⟩
  f26 := ⟨Tryz.f143.name, by decide, Tryz.func143.trans (congrArg some (by kernel_rfl))⟩
  f27 := ⟨Tryz.f144.name, by decide, Tryz.func144.trans (congrArg some (by kernel_rfl))⟩
  f28 := Tryz.func145.trans (congrArg some (by kernel_rfl))
  f29 := Tryz.func146.trans (congrArg some (by kernel_rfl))
  f46 := ⟨Tryz.f168.name, by decide, Tryz.func168.trans (congrArg some (by kernel_rfl))⟩
  f47 := Tryz.func169.trans (congrArg some (by kernel_rfl))
  f48 := Tryz.func170.trans (congrArg some (by kernel_rfl))
  f49 := ⟨Tryz.f171.name, by decide, Tryz.func171.trans (congrArg some (by kernel_rfl))⟩
  f50 := ⟨Tryz.f172.name, by decide, Tryz.func172.trans (congrArg some (by kernel_rfl))⟩
  f57 := ⟨Tryz.f185.name, by decide, Tryz.func185.trans (congrArg some (by kernel_rfl))⟩
  t0 := Tryz.underlying0
  a0 := Tryz.isAgg0
  z0 := Tryz.sizeOf0
  v0 := Tryz.zeroValue0
  t3 := Tryz.underlying3
  a3 := Tryz.isAgg3
  z3 := Tryz.sizeOf3
  v3 := Tryz.zeroValue3
  t4 := Tryz.underlying4
  a4 := Tryz.isAgg4
  z4 := Tryz.sizeOf4
  v4 := Tryz.zeroValue4
  t5 := Tryz.underlying5
  a5 := Tryz.isAgg5
  z5 := Tryz.sizeOf5
  v5 := Tryz.zeroValue5
  t9 := Tryz.underlying9
  a9 := Tryz.isAgg9
  z9 := Tryz.sizeOf9
  v9 := Tryz.zeroValue9
  t22 := Tryz.underlying29
  a22 := Tryz.isAgg29
  z22 := Tryz.sizeOf29
  v22 := Tryz.zeroValue29
  t25 := Tryz.underlying110
  a25 := Tryz.isAgg110
  z25 := Tryz.sizeOf110
  v25 := Tryz.zeroValue110
  t39 := Tryz.underlying147
  a39 := Tryz.isAgg147
  z39 := Tryz.sizeOf147
  v39 := Tryz.zeroValue147
  t45 := Tryz.underlying164
  a45 := Tryz.isAgg164
  z45 := Tryz.sizeOf164
  v45 := Tryz.zeroValue164
  t46 := Tryz.underlying165
  a46 := Tryz.isAgg165
  z46 := Tryz.sizeOf165
  v46 := Tryz.zeroValue165
  t50 := Tryz.underlying169
  a50 := Tryz.isAgg169
  z50 := Tryz.sizeOf169
  v50 := Tryz.zeroValue169
  t53 := Tryz.underlying172
  a53 := Tryz.isAgg172
  z53 := Tryz.sizeOf172
  v53 := Tryz.zeroValue172
  t55 := Tryz.underlying174
  a55 := Tryz.isAgg174
  z55 := Tryz.sizeOf174
  v55 := Tryz.zeroValue174
  t66 := Tryz.underlying193
  a66 := Tryz.isAgg193
  z66 := Tryz.sizeOf193
  v66 := Tryz.zeroValue193
  t70 := Tryz.underlying197
  a70 := Tryz.isAgg197
  z70 := Tryz.sizeOf197
  v70 := Tryz.zeroValue197
  t76 := Tryz.underlying208
  a76 := Tryz.isAgg208
  z76 := Tryz.sizeOf208
  v76 := Tryz.zeroValue208
  t77 := Tryz.underlying209
  a77 := Tryz.isAgg209
  z77 := Tryz.sizeOf209
  v77 := Tryz.zeroValue209 }
def sortT_ren : Go.Shelf.Ren := ⟨fun | 6 => 116 | 15 => 107 | 14 => 162 | 28 => 145 | 29 => 146 | 20 => 176 | 21 => 177 | 22 => 178 | 23 => 179 | 24 => 180 | 25 => 181 | 26 => 182 | 27 => 183 | 46 => 195 | 47 => 169 | 48 => 170 | 49 => 196 | 50 => 197 | 57 => 201 | n => n, fun | 22 => 23 | 24 => 61 | 25 => 154 | 3 => 3 | 39 => 147 | 0 => 0 | 53 => 172 | 55 => 174 | 4 => 4 | 46 => 165 | 45 => 164 | 50 => 169 | 5 => 5 | 9 => 9 | 66 => 193 | 70 => 197 | 76 => 208 | 77 => 209 | n => n, fun | n => n⟩
theorem sortT : Go.Proofs.SlLaysF0.n6 Tryz.prog sortT_ren := {
  mixed := by kernel_rfl
  f6 := ⟨Tryz.f116.name, by decide, Tryz.func116.trans (congrArg some (by kernel_rfl))⟩
  f14 := ⟨Tryz.f162.name, by decide, Tryz.func162.trans (congrArg some (by kernel_rfl))⟩
  f15 := Tryz.func107.trans (congrArg some (by kernel_rfl))
  f20 := ⟨Tryz.f176.name, by decide, Tryz.func176.trans (congrArg some (by kernel_rfl))⟩
  f21 := ⟨Tryz.f177.name, by decide, Tryz.func177.trans (congrArg some (by kernel_rfl))⟩
  f22 := ⟨Tryz.f178.name, by decide, Tryz.func178.trans (congrArg some (by kernel_rfl))⟩
  f23 := ⟨Tryz.f179.name, by decide, Tryz.func179.trans (congrArg some (by kernel_rfl))⟩
  f24 := ⟨Tryz.f180.name, by decide, Tryz.func180.trans (congrArg some (by kernel_rfl))⟩
  f25 := ⟨Tryz.f181.name, by decide, Tryz.func181.trans (congrArg some (by kernel_rfl))⟩
  f26 := ⟨Tryz.f182.name, by decide, Tryz.func182.trans (congrArg some (by kernel_rfl))⟩
  f27 := ⟨Tryz.f183.name, by decide, Tryz.func183.trans (congrArg some (by kernel_rfl))⟩
  f28 := Tryz.func145.trans (congrArg some (by kernel_rfl))
  f29 := Tryz.func146.trans (congrArg some (by kernel_rfl))
  f46 := ⟨Tryz.f195.name, by decide, Tryz.func195.trans (congrArg some (by kernel_rfl))⟩
  f47 := Tryz.func169.trans (congrArg some (by kernel_rfl))
  f48 := Tryz.func170.trans (congrArg some (by kernel_rfl))
  f49 := ⟨Tryz.f196.name, by decide, Tryz.func196.trans (congrArg some (by kernel_rfl))⟩
  f50 := ⟨Tryz.f197.name, by decide, Tryz.func197.trans (congrArg some (by kernel_rfl))⟩
  f57 := ⟨Tryz.f201.name, by decide, Tryz.func201.trans (congrArg some (by kernel_rfl))⟩
  t0 := Tryz.underlying0
  a0 := Tryz.isAgg0
  z0 := Tryz.sizeOf0
  v0 := Tryz.zeroValue0
  t3 := Tryz.underlying3
  a3 := Tryz.isAgg3
  z3 := Tryz.sizeOf3
  v3 := Tryz.zeroValue3
  t4 := Tryz.underlying4
  a4 := Tryz.isAgg4
  z4 := Tryz.sizeOf4
  v4 := Tryz.zeroValue4
  t5 := Tryz.underlying5
  a5 := Tryz.isAgg5
  z5 := Tryz.sizeOf5
  v5 := Tryz.zeroValue5
  t9 := Tryz.underlying9
  a9 := Tryz.isAgg9
  z9 := Tryz.sizeOf9
  v9 := Tryz.zeroValue9
  t22 := Tryz.underlying23
  a22 := Tryz.isAgg23
  z22 := Tryz.sizeOf23
  v22 := Tryz.zeroValue23
  t25 := Tryz.underlying154
  a25 := Tryz.isAgg154
  z25 := Tryz.sizeOf154
  v25 := Tryz.zeroValue154
  t39 := Tryz.underlying147
  a39 := Tryz.isAgg147
  z39 := Tryz.sizeOf147
  v39 := Tryz.zeroValue147
  t45 := Tryz.underlying164
  a45 := Tryz.isAgg164
  z45 := Tryz.sizeOf164
  v45 := Tryz.zeroValue164
  t46 := Tryz.underlying165
  a46 := Tryz.isAgg165
  z46 := Tryz.sizeOf165
  v46 := Tryz.zeroValue165
  t50 := Tryz.underlying169
  a50 := Tryz.isAgg169
  z50 := Tryz.sizeOf169
  v50 := Tryz.zeroValue169
  t53 := Tryz.underlying172
  a53 := Tryz.isAgg172
  z53 := Tryz.sizeOf172
  v53 := Tryz.zeroValue172
  t55 := Tryz.underlying174
  a55 := Tryz.isAgg174
  z55 := Tryz.sizeOf174
  v55 := Tryz.zeroValue174
  t66 := Tryz.underlying193
  a66 := Tryz.isAgg193
  z66 := Tryz.sizeOf193
  v66 := Tryz.zeroValue193
  t70 := Tryz.underlying197
  a70 := Tryz.isAgg197
  z70 := Tryz.sizeOf197
  v70 := Tryz.zeroValue197
  t76 := Tryz.underlying208
  a76 := Tryz.isAgg208
  z76 := Tryz.sizeOf208
  v76 := Tryz.zeroValue208
  t77 := Tryz.underlying209
  a77 := Tryz.isAgg209
  z77 := Tryz.sizeOf209
  v77 := Tryz.zeroValue209 }

theorem length_flat {α : Type} {enc : α → List Value} {k : Nat} (henc : ∀ x, (enc x).length = k) (xs : List α) : (xs.flatMap enc).length = xs.length * k := by
  induction xs with
  | nil => simp
  | cons x xs ih => rw [List.flatMap_cons, List.length_append, henc, ih, List.length_cons, Nat.add_mul]; omega
section
variable {α : Type} [Inhabited α] {enc : α → List Value} {k : Nat}
theorem flatK_toList (henc : ∀ x, (enc x).length = k) (hk : 0 < k) (d : Array α) : (flatK enc k d).toList = d.toList.flatMap enc := by
  have hlen : (d.toList.flatMap enc).length = d.size * k := by
    rw [length_flat henc]; simp
  apply List.ext_getElem?
  intro t
  by_cases ht : t < d.size * k
  · have h1 : t / k < d.size := Nat.div_lt_of_lt_mul (by rwa [Nat.mul_comm])
    have h2 : t % k < k := Nat.mod_lt _ hk
    have e1 := getD_flatMap enc k henc d.toList (t / k) (t % k) (by simpa using h1) h2 undef
    rw [show t / k * k + t % k = t by rw [Nat.mul_comm]; exact Nat.div_add_mod t k] at e1
    have e2 := get_flatK enc k d t ht
    have h3 : t < (flatK enc k d).size := by simpa using ht
    have h4 : t < (d.toList.flatMap enc).length := by rw [hlen]; exact ht
    rw [List.getElem?_eq_getElem (by simpa using h3), List.getElem?_eq_getElem h4]
    rw [getElem!_pos _ t h3] at e2
    rw [List.getD_eq_getElem?_getD, List.getElem?_eq_getElem h4] at e1
    simp only [Option.getD_some] at e1
    rw [e1, Array.getElem_toList, e2]
    have h5 : t % k < (enc d[t / k]).length := by rw [henc]; exact h2
    rw [getElem!_pos _ (t / k) h1, getElem!_pos _ (t % k) h5]
    simp [List.getD_eq_getElem?_getD, henc, h2]
  · rw [List.getElem?_eq_none (by simpa using Nat.le_of_not_lt ht), List.getElem?_eq_none (by rw [hlen]; exact Nat.le_of_not_lt ht)]
theorem holdsK_of_own (henc : ∀ x, (enc x).length = k) (hk : 0 < k) {w : World} {base g cap : Nat} {e : TypeId} {xs : List α} (h : OwnL w base e k enc (.slice (some ⟨g, 0, none⟩) xs.length cap) xs) : HoldsK enc k w g 0 xs.toArray := by
  intro j hj
  have hj' : j < xs.length * k := by simpa using hj
  have hc := World.ownsRow.cellAt h j hj'
  refine ⟨?_, World.ownsRow.frozenAt h _⟩
  rw [Nat.zero_add, hc]
  have e1 := flatK_toList henc hk xs.toArray
  rw [← e1, getElem!_pos _ j hj]
  rw [List.getElem?_eq_getElem (by simpa using hj)]
  rfl
theorem own_of_sorted (henc : ∀ x, (enc x).length = k) (hk : 0 < k) {w : World} {base g cap : Nat} {e : TypeId} {xs : List α} (h : OwnL w base e k enc (.slice (some ⟨g, 0, none⟩) xs.length cap) xs) (d : Array α) (hd : d.size = xs.length) (n : Nat) (os : Array Obj) :
    OwnL (sortWorldK enc k w g 0 n d os) base e k enc (.slice (some ⟨g, 0, none⟩) xs.length cap) d.toList := by
  have e1 := flatK_toList henc hk d
  rcases h.2 with ⟨h0, _⟩ | ⟨g', cap', cur, hv, hb, hh, hnc, hcap, hcs, htk⟩
  · cases h0
  · injection hv with hv1 hv2 hv3
    injection hv1 with hv1
    injection hv1 with hv1
    subst hv1; subst hv3
    have hlt := (Array.getElem?_eq_some_iff.1 hh).1
    have hF : (flatK enc k d).size = xs.length * k := by simp [hd]
    refine ⟨by rw [← e1]; simp, .inr ⟨g, cap, putCells id 0 (flatK enc k d) cur, by simp [hd], hb, ?_, by simpa [hd] using hnc, hcap, by simp [putCells, hcs], ?_⟩⟩
    · have e2 : (sortWorldK enc k w g 0 n d os).heap = (w.heap.modify g (onCells (putCells id 0 (flatK enc k d)))) ++ os := rfl
      rw [e2, Array.getElem?_append_left (by simpa using hlt), Array.getElem?_modify, if_pos rfl, hh]
      rfl
    · rw [← e1]
      have hle : xs.length * k ≤ cur.size := by rw [hcs]; exact Nat.mul_le_mul_right k hnc
      apply List.ext_getElem?
      intro t
      simp only [Array.length_toList, hd]
      by_cases ht : t < xs.length * k
      · rw [List.getElem?_take_of_lt ht]
        have ht2 : t < (flatK enc k d).size := by rw [hF]; exact ht
        rw [List.getElem?_eq_getElem (l := (flatK enc k d).toList) (by simpa using ht2), Array.getElem?_toList, Array.getElem?_eq_getElem (xs := putCells id 0 (flatK enc k d) cur) (by simp [putCells]; omega)]
        simp only [putCells, Array.getElem_mapIdx, Nat.zero_le, true_and, Nat.zero_add, Nat.sub_zero, id]
        rw [if_pos ht2, getElem!_pos _ t ht2]
        simp
      · rw [List.getElem?_eq_none (by simp only [List.length_take]; omega), List.getElem?_eq_none (by simpa [hd] using Nat.le_of_not_lt ht)]
theorem below_sorted {w : World} {base g : Nat} (hg : base ≤ g) (d : Array α) (n : Nat) (os : Array Obj) (hlt : g < w.heap.size) : RowKit.Below base w (sortWorldK enc k w g 0 n d os) := by
  refine ⟨rfl, rfl, rfl, ?_, fun j hj => ?_⟩
  · show w.heap.size ≤ ((w.heap.modify g _) ++ os).size
    simp
  · have e2 : (sortWorldK enc k w g 0 n d os).heap = (w.heap.modify g (onCells (putCells id 0 (flatK enc k d)))) ++ os := rfl
    rw [e2, Array.getElem?_append_left (by simp; omega), Array.getElem?_modify, if_neg (by omega)]
theorem cmpLays_of {P : Program} {g : Nat} {cf : α → α → Int} (hg : ∀ (x y : α) (W : World), Calls P g (#[.agg (enc x).toArray, .agg (enc y).toArray] ++ #[]) W fun e w' => e = .returned (.int .i64 (cf x y)) ∧ Grw W w') (blk off size : Nat) (w : World) : CmpLays P g #[] enc k cf blk off size w := by
  intro m os dk _ x y
  refine (hg x y _).mono fun e w' ⟨he, hG⟩ => ⟨he, w'.drawn - (sortWorldK enc k w blk off m dk os).drawn, w'.heap.extract (sortWorldK enc k w blk off m dk os).heap.size w'.heap.size, ?_⟩
  generalize sortWorldK enc k w blk off m dk os = W at hG
  obtain ⟨hb, hd⟩ := hG
  have h1 : w'.heap = W.heap ++ w'.heap.extract W.heap.size w'.heap.size := by
    apply Array.ext_getElem?
    intro j
    by_cases hj : j < W.heap.size
    · rw [Array.getElem?_append_left hj, hb.block j hj]
    · rw [Array.getElem?_append_right (by omega), Array.getElem?_extract]
      by_cases hj2 : j < w'.heap.size
      · rw [if_pos (by omega)]; congr 1; omega
      · rw [if_neg (by omega), Array.getElem?_eq_none (by omega)]
  have h2 : w'.drawn = W.drawn + (w'.drawn - W.drawn) := by omega
  obtain ⟨heap, tape, drawn, os', output⟩ := w'
  have h3 := hb.os; have h4 := hb.tape; have h5 := hb.output
  simp only at h1 h2 h3 h4 h5
  subst h3 h4 h5
  show (⟨heap, W.tape, drawn, W.os, W.output⟩ : World) = ⟨W.heap ++ heap.extract W.heap.size heap.size, W.tape, W.drawn + (drawn - W.drawn), W.os, W.output⟩
  rw [← h1, ← h2]
end

theorem ltOf_T : ltOf cmpT = tLess := by
  funext x y
  unfold ltOf cmpT
  split
  · rename_i h; simp [h]
  · rename_i h; split <;> simp_all
theorem ltOf_U : ltOf cmpU = uLess := by
  funext x y
  unfold ltOf cmpU
  split
  · rename_i h; simp [h]
  · rename_i h; split <;> simp_all
theorem swo_of_lin {α : Type} {lt : α → α → Bool} (L : Lin lt) : SWO lt where
  irrefl := L.irrefl
  trans := L.trans
  ntrans x y z h1 h2 := by
    cases h3 : lt x z with
    | false => rfl
    | true =>
      cases h4 : lt y x with
      | true => have := L.trans _ _ _ h4 h3; rw [h2] at this; cases this
      | false => have := L.tri _ _ h1 h4; subst this; rw [h2] at h3; cases h3
theorem perm_of_permIn {α : Type} [Inhabited α] {d d' : Array α} (h : PermIn 0 d.size d d') : d'.toList.Perm d.toList ∧ d'.size = d.size := by
  obtain ⟨h1, _, h3⟩ := h
  refine ⟨?_, h1⟩
  have e : ∀ (x : Array α), x.extract 0 x.size = x := fun x => by simp
  rw [e d] at h3
  have e2 : d'.extract 0 d.size = d' := by rw [← h1]; exact e d'
  rwa [e2] at h3
theorem pairwise_of_sortedIn {α : Type} [Inhabited α] {lt : α → α → Bool} {d : Array α} {n : Nat} (hn : n = d.size) (h : SortedIn lt 0 n d) : d.toList.Pairwise fun x y => lt y x = false := by
  rw [List.pairwise_iff_getElem]
  intro i j hi hj hij
  have hi' : i < d.size := by simpa using hi
  have hj' : j < d.size := by simpa using hj
  have := h i j (Nat.zero_le _) hij (by omega)
  rw [getElem!_pos _ i hi', getElem!_pos _ j hj'] at this
  simpa using this

/-- A slice of tuples of the call's own, sorted. -/
theorem sort_tuples {w : World} {base : Nat} {v : Value} {xs : List LTuple} (h : OwnL w base 61 6 LTuple.cells v xs) (hn : xs.Nodup) (hl : xs.length ≤ 140737488355328) :
    Calls Tryz.prog 116 #[v, .func (.func 117) #[] #[]] w fun e w' => e = .returned (.tuple #[]) ∧ OwnL w' base 61 6 LTuple.cells v (canon tLess xs) ∧ RowKit.Below base w w' := by
  rcases Nat.eq_zero_or_pos xs.length with h0 | h0
  · obtain rfl : xs = [] := List.eq_nil_of_length_eq_zero h0
    obtain ⟨a, c, rfl, _⟩ := h.form
    have hcon := AnyF.slices_SortFunc_none { sortT with } a c (.func (.func 117) #[] #[]) w
    exact hcon.mono fun e w' ⟨he, hw⟩ => ⟨he, by subst hw; exact h, by subst hw; exact RowKit.Below.refl _ _⟩
  · have hb := h.block
    obtain ⟨g, cap, rfl⟩ : ∃ g cap, v = .slice (some ⟨g, 0, none⟩) xs.length cap := by
      rcases h.2 with ⟨_, h1⟩ | ⟨g, cap, cur, hv, _⟩
      · omega
      · exact ⟨g, cap, hv⟩
    obtain ⟨hg1, hg2⟩ := hb g rfl
    have hcon := AnyQ.slices_SortFunc sortT 6 Tryz.isAgg61 Tryz.sizeOf61 LTuple.cells LTuple.len LTuple.one cmpT (by rw [ltOf_T]; exact swo_of_lin lin_tLess) 117 #[] g 0 cap xs.toArray w
      (enters_of Tryz.func117 (by kernel_rfl) rfl) (cmpLays_of (fun x y W => which1 x y W) _ _ _ _) (holdsK_of_own LTuple.len (by omega) h) hg2 (by simp; omega)
    have hcon' : Calls Tryz.prog 116 #[.slice (some ⟨g, 0, none⟩) xs.length cap, .func (.func 117) #[] #[]] w _ := hcon
    refine hcon'.mono fun e w' ⟨he, d', n, os, hp, hs, hw⟩ => ⟨he, ?_⟩
    obtain ⟨hp1, hp2⟩ := perm_of_permIn hp
    rw [ltOf_T] at hs
    have e : d'.toList = canon tLess xs := sorted_eq_canon lin_tLess (by simpa using hp1) hn (pairwise_of_sortedIn (by rw [hp2]) hs)
    subst hw
    have h1 := own_of_sorted LTuple.len (by omega) h d' (by simpa using hp2) n os
    rw [e] at h1
    exact ⟨h1, below_sorted hg1 d' n os hg2⟩
/-- A slice of users of the call's own, sorted: they may be the same more than once. -/
theorem sort_users (g : Nat) (hcl : ∀ (x y : LUser) (W : World), Calls Tryz.prog g (#[.agg x.cells.toArray, .agg y.cells.toArray] ++ #[]) W fun e w' => e = .returned (.int .i64 (cmpU x y)) ∧ Grw W w')
    (eg : ∀ args w, (callFunc g args).run Tryz.prog w = .ok (.enter g args) w) {w : World} {base : Nat} {v : Value} {xs : List LUser} (h : OwnL w base 25 3 LUser.cells v xs) (hl : xs.length ≤ 140737488355328) :
    Calls Tryz.prog 61 #[v, .func (.func g) #[] #[]] w fun e w' => e = .returned (.tuple #[]) ∧ ∃ ys : List LUser, ys.Perm xs ∧ ys.Pairwise (fun x y => uLess y x = false) ∧ OwnL w' base 25 3 LUser.cells v ys ∧ RowKit.Below base w w' := by
  rcases Nat.eq_zero_or_pos xs.length with h0 | h0
  · obtain rfl : xs = [] := List.eq_nil_of_length_eq_zero h0
    obtain ⟨a, c, rfl, _⟩ := h.form
    have hcon := AnyF.slices_SortFunc_none { sortU with } a c (.func (.func g) #[] #[]) w
    exact hcon.mono fun e w' ⟨he, hw⟩ => ⟨he, [], List.Perm.refl _, List.Pairwise.nil, by subst hw; exact h, by subst hw; exact RowKit.Below.refl _ _⟩
  · have hb := h.block
    obtain ⟨gb, cap, rfl⟩ : ∃ gb cap, v = .slice (some ⟨gb, 0, none⟩) xs.length cap := by
      rcases h.2 with ⟨_, h1⟩ | ⟨gb, cap, cur, hv, _⟩
      · omega
      · exact ⟨gb, cap, hv⟩
    obtain ⟨hg1, hg2⟩ := hb gb rfl
    have hcon := AnyQ.slices_SortFunc sortU 3 Tryz.isAgg25 Tryz.sizeOf25 LUser.cells LUser.len LUser.one cmpU (by rw [ltOf_U]; exact swo_of_lin lin_uLess) g #[] gb 0 cap xs.toArray w
      eg (cmpLays_of hcl _ _ _ _) (holdsK_of_own LUser.len (by omega) h) hg2 (by simp; omega)
    have hcon' : Calls Tryz.prog 61 #[.slice (some ⟨gb, 0, none⟩) xs.length cap, .func (.func g) #[] #[]] w _ := hcon
    refine hcon'.mono fun e w' ⟨he, d', n, os, hp, hs, hw⟩ => ⟨he, d'.toList, ?_⟩
    obtain ⟨hp1, hp2⟩ := perm_of_permIn hp
    rw [ltOf_U] at hs
    subst hw
    exact ⟨by simpa using hp1, pairwise_of_sortedIn (by rw [hp2]) hs, own_of_sorted LUser.len (by omega) h d' (by simpa using hp2) n os, below_sorted hg1 d' n os hg2⟩
end Go.Proofs.YtnfkjodiielidaaGreatDoor

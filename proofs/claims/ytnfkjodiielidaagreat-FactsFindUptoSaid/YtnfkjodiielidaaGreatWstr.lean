/- The library's sort and compact of strings, laid here; a row of strings of the call's own, sorted, each once. -/
import Derived.Test.YtnfkjodiielidaaGreatWrow
import Derived.Shelf.Sort.Plain
import Derived.Shelf.Slices.CompactS
import Derived.Shelf.Slices.In.SortNone
import Derived.Sort.OwnSorted
namespace Go.Proofs.YtnfkjodiielidaaGreat
set_option linter.unusedVariables false
set_option linter.unusedSimpArgs false
open Go.RowKit

def sortS_ren : Go.Shelf.Ren := ⟨fun | 190 => 31 | 125 => 50 | 258 => 49 | 128 => 72 | 129 => 73 | 302 => 63 | 303 => 64 | 304 => 65 | 305 => 66 | 306 => 67 | 307 => 68 | 308 => 69 | 309 => 70 | 310 => 71 | 333 => 96 | 329 => 97 | 330 => 98 | 334 => 99 | 335 => 100 | 336 => 101 | 344 => 108 | n => n, fun | 31 => 40 | 9 => 9 | 3 => 3 | 46 => 73 | 0 => 0 | 51 => 88 | 53 => 90 | 4 => 4 | 183 => 81 | 182 => 80 | 131 => 85 | 5 => 5 | 218 => 105 | 222 => 109 | 228 => 115 | 229 => 116 | n => n, fun | n => n⟩
theorem sortS : Go.Proofs.Lays.n190 Tryz.prog sortS_ren := {
  mixed := by kernel_rfl
  f125 := Tryz.func50.trans (congrArg some (by kernel_rfl))
  f128 := Tryz.func72.trans (congrArg some (by kernel_rfl))
  f129 := Tryz.func73.trans (congrArg some (by kernel_rfl))
  f190 := Tryz.func31.trans (congrArg some (by kernel_rfl))
  f258 := Tryz.func49.trans (congrArg some (by kernel_rfl))
  f302 := Tryz.func63.trans (congrArg some (by kernel_rfl))
  f303 := Tryz.func64.trans (congrArg some (by kernel_rfl))
  f304 := Tryz.func65.trans (congrArg some (by kernel_rfl))
  f305 := Tryz.func66.trans (congrArg some (by kernel_rfl))
  f306 := Tryz.func67.trans (congrArg some (by kernel_rfl))
  f307 := Tryz.func68.trans (congrArg some (by kernel_rfl))
  f308 := Tryz.func69.trans (congrArg some (by kernel_rfl))
  f309 := Tryz.func70.trans (congrArg some (by kernel_rfl))
  f310 := Tryz.func71.trans (congrArg some (by kernel_rfl))
  f329 := Tryz.func97.trans (congrArg some (by kernel_rfl))
  f330 := Tryz.func98.trans (congrArg some (by kernel_rfl))
  f333 := Tryz.func96.trans (congrArg some (by kernel_rfl))
  f334 := Tryz.func99.trans (congrArg some (by kernel_rfl))
  f335 := Tryz.func100.trans (congrArg some (by kernel_rfl))
  f336 := Tryz.func101.trans (congrArg some (by kernel_rfl))
  f344 := Tryz.func108.trans (congrArg some (by kernel_rfl))
  t0 := Tryz.underlying0
  a0 := Tryz.isAgg0
  z0 := Tryz.sizeOf0
  v0 := Tryz.zeroValue0
  t3 := Tryz.underlying3
  a3 := Tryz.isAgg3
  z3 := Tryz.sizeOf3
  v3 := Tryz.zeroValue3
  t4 := Tryz.underlying4
  a4 := Tryz.isAgg4
  z4 := Tryz.sizeOf4
  v4 := Tryz.zeroValue4
  t5 := Tryz.underlying5
  a5 := Tryz.isAgg5
  z5 := Tryz.sizeOf5
  v5 := Tryz.zeroValue5
  t9 := Tryz.underlying9
  a9 := Tryz.isAgg9
  z9 := Tryz.sizeOf9
  v9 := Tryz.zeroValue9
  t31 := Tryz.underlying40
  a31 := Tryz.isAgg40
  z31 := Tryz.sizeOf40
  v31 := Tryz.zeroValue40
  t46 := Tryz.underlying73
  a46 := Tryz.isAgg73
  z46 := Tryz.sizeOf73
  v46 := Tryz.zeroValue73
  t51 := Tryz.underlying88
  a51 := Tryz.isAgg88
  z51 := Tryz.sizeOf88
  v51 := Tryz.zeroValue88
  t53 := Tryz.underlying90
  a53 := Tryz.isAgg90
  z53 := Tryz.sizeOf90
  v53 := Tryz.zeroValue90
  t131 := Tryz.underlying85
  a131 := Tryz.isAgg85
  z131 := Tryz.sizeOf85
  v131 := Tryz.zeroValue85
  t182 := Tryz.underlying80
  a182 := Tryz.isAgg80
  z182 := Tryz.sizeOf80
  v182 := Tryz.zeroValue80
  t183 := Tryz.underlying81
  a183 := Tryz.isAgg81
  z183 := Tryz.sizeOf81
  v183 := Tryz.zeroValue81
  t218 := Tryz.underlying105
  a218 := Tryz.isAgg105
  z218 := Tryz.sizeOf105
  v218 := Tryz.zeroValue105
  t222 := Tryz.underlying109
  a222 := Tryz.isAgg109
  z222 := Tryz.sizeOf109
  v222 := Tryz.zeroValue109
  t228 := Tryz.underlying115
  a228 := Tryz.isAgg115
  z228 := Tryz.sizeOf115
  v228 := Tryz.zeroValue115
  t229 := Tryz.underlying116
  a229 := Tryz.isAgg116
  z229 := Tryz.sizeOf116
  v229 := Tryz.zeroValue116 }
def compactS_ren : Go.Shelf.Ren := ⟨fun | 194 => 32 | n => n, fun | 31 => 40 | 9 => 9 | 3 => 3 | 4 => 4 | 0 => 0 | n => n, fun | n => n⟩
theorem compactS : Go.Proofs.Lays.n194 Tryz.prog compactS_ren := {
  mixed := by kernel_rfl
  f194 := Tryz.func32.trans (congrArg some (by kernel_rfl))
  t0 := Tryz.underlying0
  a0 := Tryz.isAgg0
  z0 := Tryz.sizeOf0
  v0 := Tryz.zeroValue0
  t3 := Tryz.underlying3
  a3 := Tryz.isAgg3
  z3 := Tryz.sizeOf3
  v3 := Tryz.zeroValue3
  t4 := Tryz.underlying4
  a4 := Tryz.isAgg4
  z4 := Tryz.sizeOf4
  v4 := Tryz.zeroValue4
  t9 := Tryz.underlying9
  a9 := Tryz.isAgg9
  z9 := Tryz.sizeOf9
  v9 := Tryz.zeroValue9
  t31 := Tryz.underlying40
  a31 := Tryz.isAgg40
  z31 := Tryz.sizeOf40
  v31 := Tryz.zeroValue40 }


theorem less_list : ∀ (x y : List UInt8), Op.bytesLess x y = decide (x < y)
  | [], [] => by simp [Op.bytesLess]
  | _ :: _, [] => by simp [Op.bytesLess]
  | [], _ :: _ => by simp [Op.bytesLess]
  | a :: x, b :: y => by
    rw [Op.bytesLess, less_list x y]
    simp only [List.cons_lt_cons_iff]
    by_cases h1 : a < b <;> by_cases h2 : a = b <;> by_cases h3 : x < y <;> simp [h1, h2, h3]
def ofL (l : List UInt8) : ByteArray := ⟨l.toArray⟩
theorem ofL_toList (s : ByteArray) : ofL s.toList = s := by unfold ofL; rw [ByteArray.toList_eq]
theorem toList_ofL (l : List UInt8) : (ofL l).toList = l := by unfold ofL; rw [ByteArray.toList_eq]
theorem ofL_inj {x y : List UInt8} (h : ofL x = ofL y) : x = y := by rw [← toList_ofL x, h, toList_ofL]
theorem map_ofL (l : List (List UInt8)) : (l.map ofL).map ByteArray.toList = l := by rw [List.map_map]; exact (List.map_congr_left (fun x _ => toList_ofL x)).trans (List.map_id _)
theorem flat_str (xs : List ByteArray) : xs.flatMap strCells = (xs.map ByteArray.toList).map encStr := by
  induction xs with
  | nil => rfl
  | cons x xs ih =>
    rw [List.flatMap_cons, ih]
    simp only [List.map_cons, encStr]
    rw [show (⟨x.toList.toArray⟩ : ByteArray) = x from ofL_toList x]
    rfl
/-- A slice of strings of the call's own, sorted: they may be the same more than once. -/
theorem sort_strs {w : World} {base : Nat} {v : Value} {xs : List ByteArray} (h : OwnL w base 9 1 strCells v xs) (hl : xs.length ≤ 140737488355328) :
    Calls Tryz.prog 31 #[v] w fun e w' => e = .returned (.tuple #[]) ∧ ∃ ys : List ByteArray, ys.Perm xs ∧ ys.Pairwise (fun x y => ltS y x = false) ∧ OwnL w' base 9 1 strCells v ys ∧ RowKit.Below base w w' := by
  rcases Nat.eq_zero_or_pos xs.length with h0 | h0
  · obtain rfl : xs = [] := List.eq_nil_of_length_eq_zero h0
    obtain ⟨a, c, rfl, _⟩ := h.form
    have hcon := Any.slices_Sort_string_none sortS a c w
    exact hcon.mono fun e w' ⟨he, hw⟩ => ⟨he, [], List.Perm.refl _, List.Pairwise.nil, by subst hw; exact h, by subst hw; exact RowKit.Below.refl _ _⟩
  · obtain ⟨g, cap, rfl⟩ : ∃ g cap, v = .slice (some ⟨g, 0, none⟩) xs.length cap := by
      rcases h.2 with ⟨_, h1⟩ | ⟨g, cap, cur, hv, _⟩
      · omega
      · exact ⟨g, cap, hv⟩
    obtain ⟨_, _, hb, cur, hh, hnc, hcap, hcs, htk⟩ := h.open
    rw [flat_str, Nat.mul_one] at htk
    have hgl := (Array.getElem?_eq_some_iff.1 hh).1
    have hlen : (xs.map ByteArray.toList).length = xs.length := by simp
    have hcon := Any.slices_Sort_string sortS g 0 cap (xs.map ByteArray.toList) w (holds_of_block hh (by rw [hlen]; exact htk)) hgl (by rw [hlen]; omega)
    rw [hlen] at hcon
    have hcon' : Calls Tryz.prog 31 #[.slice (some ⟨g, 0, none⟩) xs.length cap] w _ := hcon
    refine hcon'.mono fun e w' ⟨he, n, os, hw⟩ => ⟨he, ((xs.map ByteArray.toList).mergeSort fun x y => decide (x ≤ y)).map ofL, ?_⟩
    have hp : ((xs.map ByteArray.toList).mergeSort fun x y => decide (x ≤ y)).Perm (xs.map ByteArray.toList) := List.mergeSort_perm _ _
    have e1 : (xs.map ByteArray.toList).map ofL = xs := by rw [List.map_map]; exact (List.map_congr_left (fun x _ => ofL_toList x)).trans (List.map_id _)
    have e2 : ∀ l : List (List UInt8), (l.map ofL).map ByteArray.toList = l := map_ofL
    have hs := List.pairwise_mergeSort (le := fun x y : List UInt8 => decide (x ≤ y)) (fun a b c h1 h2 => by simp only [decide_eq_true_eq] at *; exact List.le_trans h1 h2) (fun a b => by simp only [Bool.or_eq_true, decide_eq_true_eq]; exact List.le_total a b) (xs.map ByteArray.toList)
    have hts : ((xs.map ByteArray.toList).mergeSort fun x y => decide (x ≤ y)).length = xs.length := by rw [hp.length_eq, hlen]
    refine ⟨?_, ?_, ?_, ?_⟩
    · have := hp.map ofL
      rwa [e1] at this
    · rw [List.pairwise_map]
      refine hs.imp fun {a b} hab => ?_
      unfold ltS
      rw [toList_ofL, toList_ofL, less_list]
      simp only [decide_eq_true_eq] at hab
      simpa using hab
    · subst hw
      have := ownsRow_sorted (n := n) (os := os) (ss := xs.map ByteArray.toList) (ts := (xs.map ByteArray.toList).mergeSort fun x y => decide (x ≤ y)) (hts.trans hlen.symm) hb hh (by rw [hlen]; exact hnc) hcap hcs
      rw [hlen] at this
      unfold OwnL
      rw [flat_str, e2, List.length_map, hts]
      exact this
    · subst hw
      have := grownBy_sorted (w := w) (g := g) (n := n) (os := os) ((xs.map ByteArray.toList).mergeSort fun x y => decide (x ≤ y)).toArray
      exact (RowKit.Below.refl base w).grown this (by omega) (fun k hk => (Option.some.inj hk) ▸ hb)

theorem compact_strs {w : World} {base : Nat} {v : Value} {xs : List ByteArray} (h : OwnL w base 9 1 strCells v xs) (hl : xs.length ≤ 140737488355328) (hs : xs.Pairwise (fun x y => ltS y x = false)) :
    Calls Tryz.prog 32 #[v] w fun e w' => ∃ v', e = .returned v' ∧ OwnL w' base 9 1 strCells v' (canon ltS xs) ∧ RowKit.Below base w w' := by
  rcases Nat.eq_zero_or_pos xs.length with h0 | h0
  · obtain rfl : xs = [] := List.eq_nil_of_length_eq_zero h0
    obtain ⟨a, c, rfl, _⟩ := h.form
    have hcon := Any.slices_Compact_string_empty compactS a c w
    exact hcon.mono fun e w' ⟨he, hw⟩ => ⟨_, he, by subst hw; exact h, by subst hw; exact RowKit.Below.refl _ _⟩
  · obtain ⟨g, cap, rfl⟩ : ∃ g cap, v = .slice (some ⟨g, 0, none⟩) xs.length cap := by
      rcases h.2 with ⟨_, h1⟩ | ⟨g, cap, cur, hv, _⟩
      · omega
      · exact ⟨g, cap, hv⟩
    obtain ⟨_, _, hb, cur, hh, hnc, hcap, hcs, htk⟩ := h.open
    rw [flat_str, Nat.mul_one] at htk
    have hgl := (Array.getElem?_eq_some_iff.1 hh).1
    have hlen : (xs.map ByteArray.toList).length = xs.length := by simp
    have hcon := Any.slices_Compact_string compactS g 0 cap (xs.map ByteArray.toList) w (holds_of_block hh (by rw [hlen]; exact htk)) (by rw [hlen]; omega) (by rw [hlen]; exact hnc)
    rw [hlen] at hcon
    have hcon' : Calls Tryz.prog 32 #[.slice (some ⟨g, 0, none⟩) xs.length cap] w _ := hcon
    -- what compact gives, at bytes
    have L2 : Lin (fun x y : List UInt8 => Op.bytesLess x y) := lin_ltS.of_inj ofL (fun x y h => ofL_inj h) |> fun L => ⟨fun x => by have := L.irrefl x; simpa [ltS, toList_ofL] using this, fun x y z a b => by have := L.trans x y z (by simpa [ltS, toList_ofL] using a) (by simpa [ltS, toList_ofL] using b); simpa [ltS, toList_ofL] using this, fun x y a b => L.tri x y (by simpa [ltS, toList_ofL] using a) (by simpa [ltS, toList_ofL] using b)⟩
    have hcs2 := compact_sorted L2 (xs.map ByteArray.toList) (by rw [List.pairwise_map]; exact hs)
    have hle : (Lib.compact (xs.map ByteArray.toList)).length ≤ xs.length := by rw [hcs2, ← hlen]; exact canon_length_le _
    have hcan : (Lib.compact (xs.map ByteArray.toList)).map ofL = canon ltS xs := by
      rw [hcs2]
      refine eq_canon lin_ltS ?_ fun x => ?_
      · unfold Rising
        rw [List.pairwise_map]
        refine (rising_canon L2 _).imp fun {a b} hab => ?_
        unfold ltS; rw [toList_ofL, toList_ofL]; exact hab
      · rw [List.mem_map]
        constructor
        · rintro ⟨l, hl, rfl⟩
          rw [mem_canon, List.mem_map] at hl
          obtain ⟨s, hs, rfl⟩ := hl
          rw [ofL_toList]; exact hs
        · intro hx
          exact ⟨x.toList, (mem_canon _ _).2 (List.mem_map.2 ⟨x, hx, rfl⟩), ofL_toList x⟩
    refine hcon'.mono fun e w' ⟨he, q, hw⟩ => ⟨_, he, ?_, ?_⟩
    · subst hw
      have h1 : OwnL (Go.Sort.grow (Go.Sort.putRow encStr (Go.Sort.ahead w q) g 0 (Lib.compact (xs.map ByteArray.toList) ++ List.replicate (xs.length - (Lib.compact (xs.map ByteArray.toList)).length) []).toArray) #[]) base 9 1 strCells (.slice (some ⟨g, 0, none⟩) xs.length cap) ((Lib.compact (xs.map ByteArray.toList) ++ List.replicate (xs.length - (Lib.compact (xs.map ByteArray.toList)).length) []).map ofL) := by
        have hl3 : (Lib.compact (xs.map ByteArray.toList) ++ List.replicate (xs.length - (Lib.compact (xs.map ByteArray.toList)).length) []).length = xs.length := by simp; omega
        have := ownsRow_sorted (n := q) (os := #[]) (ss := xs.map ByteArray.toList) (ts := Lib.compact (xs.map ByteArray.toList) ++ List.replicate (xs.length - (Lib.compact (xs.map ByteArray.toList)).length) []) (hl3.trans hlen.symm) hb hh (by rw [hlen]; exact hnc) hcap hcs
        rw [hlen] at this
        unfold OwnL
        rw [flat_str, List.length_map, hl3]
        have e2 : ∀ l : List (List UInt8), (l.map ofL).map ByteArray.toList = l := map_ofL
        rw [e2]
        exact this
      have h2 := h1.cut strCells_len (m := (Lib.compact (xs.map ByteArray.toList)).length) (by simp)
      rw [List.map_append, List.take_left' (by simp), hcan] at h2
      exact h2.below (by
        refine ⟨rfl, rfl, rfl, ?_, fun k hk => ?_⟩
        · simp [Go.Sort.grow]
        · simp [Go.Sort.grow])
    · subst hw
      have := grownBy_sorted (w := w) (g := g) (n := q) (os := #[]) (Lib.compact (xs.map ByteArray.toList) ++ List.replicate (xs.length - (Lib.compact (xs.map ByteArray.toList)).length) []).toArray
      have h3 := (RowKit.Below.refl base w).grown this (by omega) (fun k hk => (Option.some.inj hk) ▸ hb)
      exact ⟨h3.os, h3.tape, h3.output, h3.size, fun k hk => by have := h3.block k hk; simpa [Go.Sort.grow] using this⟩
end Go.Proofs.YtnfkjodiielidaaGreat

/- The library's sort and compact of strings, laid here; a row of strings of the call's own, sorted, each once. -/
import Derived.Test.YtnfkjodiielidaaWrow
import Derived.Shelf.Sort.Plain
import Derived.Shelf.Slices.CompactS
import Derived.Shelf.Slices.In.SortNone
import Derived.Sort.OwnSorted
namespace Go.Proofs.Ytnfkjodiielidaa
set_option linter.unusedVariables false
set_option linter.unusedSimpArgs false
open Go.RowKit

def sortS_ren : Go.Shelf.Ren := ⟨fun | 190 => 39 | 125 => 52 | 258 => 55 | 128 => 72 | 129 => 73 | 302 => 75 | 303 => 76 | 304 => 77 | 305 => 78 | 306 => 79 | 307 => 80 | 308 => 81 | 309 => 82 | 310 => 83 | 333 => 98 | 329 => 93 | 330 => 94 | 334 => 99 | 335 => 100 | 336 => 97 | 344 => 105 | n => n, fun | 31 => 57 | 9 => 9 | 3 => 3 | 46 => 77 | 0 => 0 | 51 => 94 | 53 => 96 | 4 => 4 | 183 => 87 | 182 => 86 | 131 => 91 | 5 => 5 | 218 => 108 | 222 => 112 | 228 => 118 | 229 => 119 | n => n, fun | n => n⟩
theorem sortS : Go.Proofs.Lays.n190 Try.prog sortS_ren := {
  mixed := by kernel_rfl
  f125 := Try.func52.trans (congrArg some (by kernel_rfl))
  f128 := Try.func72.trans (congrArg some (by kernel_rfl))
  f129 := Try.func73.trans (congrArg some (by kernel_rfl))
  f190 := Try.func39.trans (congrArg some (by kernel_rfl))
  f258 := Try.func55.trans (congrArg some (by kernel_rfl))
  f302 := Try.func75.trans (congrArg some (by kernel_rfl))
  f303 := Try.func76.trans (congrArg some (by kernel_rfl))
  f304 := Try.func77.trans (congrArg some (by kernel_rfl))
  f305 := Try.func78.trans (congrArg some (by kernel_rfl))
  f306 := Try.func79.trans (congrArg some (by kernel_rfl))
  f307 := Try.func80.trans (congrArg some (by kernel_rfl))
  f308 := Try.func81.trans (congrArg some (by kernel_rfl))
  f309 := Try.func82.trans (congrArg some (by kernel_rfl))
  f310 := Try.func83.trans (congrArg some (by kernel_rfl))
  f329 := Try.func93.trans (congrArg some (by kernel_rfl))
  f330 := Try.func94.trans (congrArg some (by kernel_rfl))
  f333 := Try.func98.trans (congrArg some (by kernel_rfl))
  f334 := Try.func99.trans (congrArg some (by kernel_rfl))
  f335 := Try.func100.trans (congrArg some (by kernel_rfl))
  f336 := Try.func97.trans (congrArg some (by kernel_rfl))
  f344 := Try.func105.trans (congrArg some (by kernel_rfl))
  t0 := Try.underlying0
  a0 := Try.isAgg0
  z0 := Try.sizeOf0
  v0 := Try.zeroValue0
  t3 := Try.underlying3
  a3 := Try.isAgg3
  z3 := Try.sizeOf3
  v3 := Try.zeroValue3
  t4 := Try.underlying4
  a4 := Try.isAgg4
  z4 := Try.sizeOf4
  v4 := Try.zeroValue4
  t5 := Try.underlying5
  a5 := Try.isAgg5
  z5 := Try.sizeOf5
  v5 := Try.zeroValue5
  t9 := Try.underlying9
  a9 := Try.isAgg9
  z9 := Try.sizeOf9
  v9 := Try.zeroValue9
  t31 := Try.underlying57
  a31 := Try.isAgg57
  z31 := Try.sizeOf57
  v31 := Try.zeroValue57
  t46 := Try.underlying77
  a46 := Try.isAgg77
  z46 := Try.sizeOf77
  v46 := Try.zeroValue77
  t51 := Try.underlying94
  a51 := Try.isAgg94
  z51 := Try.sizeOf94
  v51 := Try.zeroValue94
  t53 := Try.underlying96
  a53 := Try.isAgg96
  z53 := Try.sizeOf96
  v53 := Try.zeroValue96
  t131 := Try.underlying91
  a131 := Try.isAgg91
  z131 := Try.sizeOf91
  v131 := Try.zeroValue91
  t182 := Try.underlying86
  a182 := Try.isAgg86
  z182 := Try.sizeOf86
  v182 := Try.zeroValue86
  t183 := Try.underlying87
  a183 := Try.isAgg87
  z183 := Try.sizeOf87
  v183 := Try.zeroValue87
  t218 := Try.underlying108
  a218 := Try.isAgg108
  z218 := Try.sizeOf108
  v218 := Try.zeroValue108
  t222 := Try.underlying112
  a222 := Try.isAgg112
  z222 := Try.sizeOf112
  v222 := Try.zeroValue112
  t228 := Try.underlying118
  a228 := Try.isAgg118
  z228 := Try.sizeOf118
  v228 := Try.zeroValue118
  t229 := Try.underlying119
  a229 := Try.isAgg119
  z229 := Try.sizeOf119
  v229 := Try.zeroValue119 }
def compactS_ren : Go.Shelf.Ren := ⟨fun | 194 => 40 | n => n, fun | 31 => 57 | 9 => 9 | 3 => 3 | 4 => 4 | 0 => 0 | n => n, fun | n => n⟩
theorem compactS : Go.Proofs.Lays.n194 Try.prog compactS_ren := {
  mixed := by kernel_rfl
  f194 := Try.func40.trans (congrArg some (by kernel_rfl))
  t0 := Try.underlying0
  a0 := Try.isAgg0
  z0 := Try.sizeOf0
  v0 := Try.zeroValue0
  t3 := Try.underlying3
  a3 := Try.isAgg3
  z3 := Try.sizeOf3
  v3 := Try.zeroValue3
  t4 := Try.underlying4
  a4 := Try.isAgg4
  z4 := Try.sizeOf4
  v4 := Try.zeroValue4
  t9 := Try.underlying9
  a9 := Try.isAgg9
  z9 := Try.sizeOf9
  v9 := Try.zeroValue9
  t31 := Try.underlying57
  a31 := Try.isAgg57
  z31 := Try.sizeOf57
  v31 := Try.zeroValue57 }


theorem less_list : ∀ (x y : List UInt8), Op.bytesLess x y = decide (x < y)
  | [], [] => by simp [Op.bytesLess]
  | _ :: _, [] => by simp [Op.bytesLess]
  | [], _ :: _ => by simp [Op.bytesLess]
  | a :: x, b :: y => by
    rw [Op.bytesLess, less_list x y]
    simp only [List.cons_lt_cons_iff]
    by_cases h1 : a < b <;> by_cases h2 : a = b <;> by_cases h3 : x < y <;> simp [h1, h2, h3]
def ofL (l : List UInt8) : ByteArray := ⟨l.toArray⟩
theorem ofL_toList (s : ByteArray) : ofL s.toList = s := by unfold ofL; rw [ByteArray.toList_eq]
theorem toList_ofL (l : List UInt8) : (ofL l).toList = l := by unfold ofL; rw [ByteArray.toList_eq]
theorem ofL_inj {x y : List UInt8} (h : ofL x = ofL y) : x = y := by rw [← toList_ofL x, h, toList_ofL]
theorem map_ofL (l : List (List UInt8)) : (l.map ofL).map ByteArray.toList = l := by rw [List.map_map]; exact (List.map_congr_left (fun x _ => toList_ofL x)).trans (List.map_id _)
theorem flat_str (xs : List ByteArray) : xs.flatMap strCells = (xs.map ByteArray.toList).map encStr := by
  induction xs with
  | nil => rfl
  | cons x xs ih =>
    rw [List.flatMap_cons, ih]
    simp only [List.map_cons, encStr]
    rw [show (⟨x.toList.toArray⟩ : ByteArray) = x from ofL_toList x]
    rfl
/-- A slice of strings of the call's own, sorted: they may be the same more than once. -/
theorem sort_strs {w : World} {base : Nat} {v : Value} {xs : List ByteArray} (h : OwnL w base 9 1 strCells v xs) (hl : xs.length ≤ 140737488355328) :
    Calls Try.prog 39 #[v] w fun e w' => e = .returned (.tuple #[]) ∧ ∃ ys : List ByteArray, ys.Perm xs ∧ ys.Pairwise (fun x y => ltS y x = false) ∧ OwnL w' base 9 1 strCells v ys ∧ RowKit.Below base w w' := by
  rcases Nat.eq_zero_or_pos xs.length with h0 | h0
  · obtain rfl : xs = [] := List.eq_nil_of_length_eq_zero h0
    obtain ⟨a, c, rfl, _⟩ := h.form
    have hcon := Any.slices_Sort_string_none sortS a c w
    exact hcon.mono fun e w' ⟨he, hw⟩ => ⟨he, [], List.Perm.refl _, List.Pairwise.nil, by subst hw; exact h, by subst hw; exact RowKit.Below.refl _ _⟩
  · obtain ⟨g, cap, rfl⟩ : ∃ g cap, v = .slice (some ⟨g, 0, none⟩) xs.length cap := by
      rcases h.2 with ⟨_, h1⟩ | ⟨g, cap, cur, hv, _⟩
      · omega
      · exact ⟨g, cap, hv⟩
    obtain ⟨_, _, hb, cur, hh, hnc, hcap, hcs, htk⟩ := h.open
    rw [flat_str, Nat.mul_one] at htk
    have hgl := (Array.getElem?_eq_some_iff.1 hh).1
    have hlen : (xs.map ByteArray.toList).length = xs.length := by simp
    have hcon := Any.slices_Sort_string sortS g 0 cap (xs.map ByteArray.toList) w (holds_of_block hh (by rw [hlen]; exact htk)) hgl (by rw [hlen]; omega)
    rw [hlen] at hcon
    have hcon' : Calls Try.prog 39 #[.slice (some ⟨g, 0, none⟩) xs.length cap] w _ := hcon
    refine hcon'.mono fun e w' ⟨he, n, os, hw⟩ => ⟨he, ((xs.map ByteArray.toList).mergeSort fun x y => decide (x ≤ y)).map ofL, ?_⟩
    have hp : ((xs.map ByteArray.toList).mergeSort fun x y => decide (x ≤ y)).Perm (xs.map ByteArray.toList) := List.mergeSort_perm _ _
    have e1 : (xs.map ByteArray.toList).map ofL = xs := by rw [List.map_map]; exact (List.map_congr_left (fun x _ => ofL_toList x)).trans (List.map_id _)
    have e2 : ∀ l : List (List UInt8), (l.map ofL).map ByteArray.toList = l := map_ofL
    have hs := List.pairwise_mergeSort (le := fun x y : List UInt8 => decide (x ≤ y)) (fun a b c h1 h2 => by simp only [decide_eq_true_eq] at *; exact List.le_trans h1 h2) (fun a b => by simp only [Bool.or_eq_true, decide_eq_true_eq]; exact List.le_total a b) (xs.map ByteArray.toList)
    have hts : ((xs.map ByteArray.toList).mergeSort fun x y => decide (x ≤ y)).length = xs.length := by rw [hp.length_eq, hlen]
    refine ⟨?_, ?_, ?_, ?_⟩
    · have := hp.map ofL
      rwa [e1] at this
    · rw [List.pairwise_map]
      refine hs.imp fun {a b} hab => ?_
      unfold ltS
      rw [toList_ofL, toList_ofL, less_list]
      simp only [decide_eq_true_eq] at hab
      simpa using hab
    · subst hw
      have := ownsRow_sorted (n := n) (os := os) (ss := xs.map ByteArray.toList) (ts := (xs.map ByteArray.toList).mergeSort fun x y => decide (x ≤ y)) (hts.trans hlen.symm) hb hh (by rw [hlen]; exact hnc) hcap hcs
      rw [hlen] at this
      unfold OwnL
      rw [flat_str, e2, List.length_map, hts]
      exact this
    · subst hw
      have := grownBy_sorted (w := w) (g := g) (n := n) (os := os) ((xs.map ByteArray.toList).mergeSort fun x y => decide (x ≤ y)).toArray
      exact (RowKit.Below.refl base w).grown this (by omega) (fun k hk => (Option.some.inj hk) ▸ hb)

theorem compact_strs {w : World} {base : Nat} {v : Value} {xs : List ByteArray} (h : OwnL w base 9 1 strCells v xs) (hl : xs.length ≤ 140737488355328) (hs : xs.Pairwise (fun x y => ltS y x = false)) :
    Calls Try.prog 40 #[v] w fun e w' => ∃ v', e = .returned v' ∧ OwnL w' base 9 1 strCells v' (canon ltS xs) ∧ RowKit.Below base w w' := by
  rcases Nat.eq_zero_or_pos xs.length with h0 | h0
  · obtain rfl : xs = [] := List.eq_nil_of_length_eq_zero h0
    obtain ⟨a, c, rfl, _⟩ := h.form
    have hcon := Any.slices_Compact_string_empty compactS a c w
    exact hcon.mono fun e w' ⟨he, hw⟩ => ⟨_, he, by subst hw; exact h, by subst hw; exact RowKit.Below.refl _ _⟩
  · obtain ⟨g, cap, rfl⟩ : ∃ g cap, v = .slice (some ⟨g, 0, none⟩) xs.length cap := by
      rcases h.2 with ⟨_, h1⟩ | ⟨g, cap, cur, hv, _⟩
      · omega
      · exact ⟨g, cap, hv⟩
    obtain ⟨_, _, hb, cur, hh, hnc, hcap, hcs, htk⟩ := h.open
    rw [flat_str, Nat.mul_one] at htk
    have hgl := (Array.getElem?_eq_some_iff.1 hh).1
    have hlen : (xs.map ByteArray.toList).length = xs.length := by simp
    have hcon := Any.slices_Compact_string compactS g 0 cap (xs.map ByteArray.toList) w (holds_of_block hh (by rw [hlen]; exact htk)) (by rw [hlen]; omega) (by rw [hlen]; exact hnc)
    rw [hlen] at hcon
    have hcon' : Calls Try.prog 40 #[.slice (some ⟨g, 0, none⟩) xs.length cap] w _ := hcon
    -- what compact gives, at bytes
    have L2 : Lin (fun x y : List UInt8 => Op.bytesLess x y) := lin_ltS.of_inj ofL (fun x y h => ofL_inj h) |> fun L => ⟨fun x => by have := L.irrefl x; simpa [ltS, toList_ofL] using this, fun x y z a b => by have := L.trans x y z (by simpa [ltS, toList_ofL] using a) (by simpa [ltS, toList_ofL] using b); simpa [ltS, toList_ofL] using this, fun x y a b => L.tri x y (by simpa [ltS, toList_ofL] using a) (by simpa [ltS, toList_ofL] using b)⟩
    have hcs2 := compact_sorted L2 (xs.map ByteArray.toList) (by rw [List.pairwise_map]; exact hs)
    have hle : (Lib.compact (xs.map ByteArray.toList)).length ≤ xs.length := by rw [hcs2, ← hlen]; exact canon_length_le _
    have hcan : (Lib.compact (xs.map ByteArray.toList)).map ofL = canon ltS xs := by
      rw [hcs2]
      refine eq_canon lin_ltS ?_ fun x => ?_
      · unfold Rising
        rw [List.pairwise_map]
        refine (rising_canon L2 _).imp fun {a b} hab => ?_
        unfold ltS; rw [toList_ofL, toList_ofL]; exact hab
      · rw [List.mem_map]
        constructor
        · rintro ⟨l, hl, rfl⟩
          rw [mem_canon, List.mem_map] at hl
          obtain ⟨s, hs, rfl⟩ := hl
          rw [ofL_toList]; exact hs
        · intro hx
          exact ⟨x.toList, (mem_canon _ _).2 (List.mem_map.2 ⟨x, hx, rfl⟩), ofL_toList x⟩
    refine hcon'.mono fun e w' ⟨he, q, hw⟩ => ⟨_, he, ?_, ?_⟩
    · subst hw
      have h1 : OwnL (Go.Sort.grow (Go.Sort.putRow encStr (Go.Sort.ahead w q) g 0 (Lib.compact (xs.map ByteArray.toList) ++ List.replicate (xs.length - (Lib.compact (xs.map ByteArray.toList)).length) []).toArray) #[]) base 9 1 strCells (.slice (some ⟨g, 0, none⟩) xs.length cap) ((Lib.compact (xs.map ByteArray.toList) ++ List.replicate (xs.length - (Lib.compact (xs.map ByteArray.toList)).length) []).map ofL) := by
        have hl3 : (Lib.compact (xs.map ByteArray.toList) ++ List.replicate (xs.length - (Lib.compact (xs.map ByteArray.toList)).length) []).length = xs.length := by simp; omega
        have := ownsRow_sorted (n := q) (os := #[]) (ss := xs.map ByteArray.toList) (ts := Lib.compact (xs.map ByteArray.toList) ++ List.replicate (xs.length - (Lib.compact (xs.map ByteArray.toList)).length) []) (hl3.trans hlen.symm) hb hh (by rw [hlen]; exact hnc) hcap hcs
        rw [hlen] at this
        unfold OwnL
        rw [flat_str, List.length_map, hl3]
        have e2 : ∀ l : List (List UInt8), (l.map ofL).map ByteArray.toList = l := map_ofL
        rw [e2]
        exact this
      have h2 := h1.cut strCells_len (m := (Lib.compact (xs.map ByteArray.toList)).length) (by simp)
      rw [List.map_append, List.take_left' (by simp), hcan] at h2
      exact h2.below (by
        refine ⟨rfl, rfl, rfl, ?_, fun k hk => ?_⟩
        · simp [Go.Sort.grow]
        · simp [Go.Sort.grow])
    · subst hw
      have := grownBy_sorted (w := w) (g := g) (n := q) (os := #[]) (Lib.compact (xs.map ByteArray.toList) ++ List.replicate (xs.length - (Lib.compact (xs.map ByteArray.toList)).length) []).toArray
      have h3 := (RowKit.Below.refl base w).grown this (by omega) (fun k hk => (Option.some.inj hk) ▸ hb)
      exact ⟨h3.os, h3.tape, h3.output, h3.size, fun k hk => by have := h3.block k hk; simpa [Go.Sort.grow] using this⟩
end Go.Proofs.Ytnfkjodiielidaa

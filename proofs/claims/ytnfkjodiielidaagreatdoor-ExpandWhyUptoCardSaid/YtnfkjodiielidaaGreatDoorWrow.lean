/- A row of the call's own: one put in another's place, cut, and the cells behind it overwritten; and compact of what is sorted. -/
import Derived.Test.YtnfkjodiielidaaGreatDoorWsort
import Derived.Lib.SlicesCompact
namespace Go.Proofs.YtnfkjodiielidaaGreatDoor
set_option linter.unusedVariables false
set_option linter.unusedSimpArgs false
open Go.RowKit

theorem setMany_toList : ∀ (vs : List Value) (o : Nat) (cur : Array Value), o + vs.length ≤ cur.size → (Go.Sort.setMany cur o vs).toList = cur.toList.take o ++ vs ++ cur.toList.drop (o + vs.length)
  | [], o, cur, _ => by simp [Go.Sort.setMany]
  | v :: r, o, cur, h => by
    simp only [List.length_cons] at h
    rw [Go.Sort.setMany, setMany_toList r (o + 1) _ (by simp; omega)]
    simp only [Array.toList_setIfInBounds, List.length_cons]
    have e1 : (cur.toList.set o v).take (o + 1) = cur.toList.take o ++ [v] := by
      rw [List.take_add_one, List.take_set_of_le (Nat.le_refl _), List.getElem?_set_self (by simpa using (show o < cur.size by omega))]
      rfl
    have e2 : (cur.toList.set o v).drop (o + 1 + r.length) = cur.toList.drop (o + 1 + r.length) := List.drop_set_of_lt (by omega)
    rw [e1, e2, List.append_assoc, List.append_assoc, List.append_assoc, show o + (r.length + 1) = o + 1 + r.length by omega]
    rfl
theorem setCells_block (g : Nat) (e : TypeId) (fr : Nat × Nat) : ∀ (vs : List Value) (o : Nat) (w : World) (cur : Array Value), w.heap[g]? = some (.cells cur e fr) → (w.setCells g o vs).heap[g]? = some (.cells (Go.Sort.setMany cur o vs) e fr)
  | [], _, _, _, h => h
  | v :: r, o, w, cur, h => setCells_block g e fr r (o + 1) (w.setCell ⟨g, o, none⟩ v) _ (by
      show (w.heap.modify g _)[g]? = _
      rw [Array.getElem?_modify, if_pos rfl, h]
      rfl)
theorem setCells_other (g k : Nat) (hk : k ≠ g) : ∀ (vs : List Value) (o : Nat) (w : World), (w.setCells g o vs).heap[k]? = w.heap[k]?
  | [], _, _ => rfl
  | v :: r, o, w => by
    rw [World.setCells, setCells_other g k hk r (o + 1)]
    show (w.heap.modify g _)[k]? = _
    rw [Array.getElem?_modify, if_neg (fun e => hk e.symm)]
theorem setCells_rest (g : Nat) : ∀ (vs : List Value) (o : Nat) (w : World), (w.setCells g o vs).os = w.os ∧ (w.setCells g o vs).tape = w.tape ∧ (w.setCells g o vs).output = w.output ∧ (w.setCells g o vs).heap.size = w.heap.size
  | [], _, _ => ⟨rfl, rfl, rfl, rfl⟩
  | v :: r, o, w => by
    obtain ⟨h1, h2, h3, h4⟩ := setCells_rest g r (o + 1) (w.setCell ⟨g, o, none⟩ v)
    exact ⟨h1, h2, h3, by rw [World.setCells, h4]; show (w.heap.modify g _).size = _; simp⟩
theorem fr_setCells {g : Nat} (vs : List Value) (o : Nat) (w : World) : Fr (fun k => k = g) w (w.setCells g o vs) :=
  let h := setCells_rest g vs o w
  ⟨h.1, h.2.1, h.2.2.1, by rw [h.2.2.2]; exact Nat.le_refl _, fun k _ hn => setCells_other g k hn vs o w⟩
theorem below_setCells {g base : Nat} (hg : base ≤ g) (vs : List Value) (o : Nat) (w : World) (hb : base ≤ w.heap.size) : RowKit.Below base w (w.setCells g o vs) :=
  (fr_setCells vs o w).below hb (fun k hk e => by omega)

section
variable {α : Type} {enc : α → List Value} {k : Nat}
theorem OwnL.open {w : World} {base g n cap : Nat} {e : TypeId} {xs : List α} (h : OwnL w base e k enc (.slice (some ⟨g, 0, none⟩) n cap) xs) :
    n = xs.length ∧ (xs.flatMap enc).length = xs.length * k ∧ base ≤ g ∧ ∃ cur, w.heap[g]? = some (.cells cur e (0, 0)) ∧ xs.length ≤ cap ∧ cap ≤ maxLen ∧ cur.size = cap * k ∧ cur.toList.take (xs.length * k) = xs.flatMap enc := by
  obtain ⟨h1, h2⟩ := h
  rcases h2 with ⟨h0, _⟩ | ⟨g', cap', cur, hv, hb, hh, hnc, hcap, hcs, htk⟩
  · cases h0
  · injection hv with hv1 hv2 hv3
    injection hv1 with hv1
    injection hv1 with hv1
    subst hv1; subst hv3
    exact ⟨hv2, h1, hb, cur, hh, hnc, hcap, hcs, htk⟩
theorem OwnL.shut {w : World} {base g n cap : Nat} {e : TypeId} {xs : List α} (hn : n = xs.length) (h1 : (xs.flatMap enc).length = xs.length * k) (hb : base ≤ g) {cur : Array Value} (hh : w.heap[g]? = some (.cells cur e (0, 0))) (hnc : xs.length ≤ cap) (hcap : cap ≤ maxLen) (hcs : cur.size = cap * k) (htk : cur.toList.take (xs.length * k) = xs.flatMap enc) : OwnL w base e k enc (.slice (some ⟨g, 0, none⟩) n cap) xs :=
  ⟨h1, .inr ⟨g, cap, cur, by rw [hn], hb, hh, hnc, hcap, hcs, htk⟩⟩
/-- One put in another's place. -/
theorem OwnL.setRow (henc : ∀ x, (enc x).length = k) {w : World} {base g n cap : Nat} {e : TypeId} {xs : List α} (h : OwnL w base e k enc (.slice (some ⟨g, 0, none⟩) n cap) xs) {i : Nat} (hi : i < xs.length) (x : α) {o : Nat} (ho : o = i * k) :
    OwnL (w.setCells g o (enc x)) base e k enc (.slice (some ⟨g, 0, none⟩) n cap) (xs.set i x) := by
  subst ho
  obtain ⟨hn, h1, hb, cur, hh, hnc, hcap, hcs, htk⟩ := h.open
  have hik : i * k + k ≤ xs.length * k := by have := Nat.mul_le_mul_right k (show i + 1 ≤ xs.length from hi); rwa [Nat.add_mul, Nat.one_mul] at this
  have hxk : xs.length * k ≤ cap * k := Nat.mul_le_mul_right k hnc
  refine OwnL.shut (by simpa using hn) (by rw [length_flat henc]) hb (setCells_block g e (0, 0) (enc x) _ w cur hh) (by simpa using hnc) hcap (by simpa using hcs) ?_
  rw [setMany_toList _ _ _ (by rw [henc]; omega), henc, List.length_set]
  have hsplit : xs = xs.take i ++ xs[i] :: xs.drop (i + 1) := by simp
  have hset : xs.set i x = xs.take i ++ x :: xs.drop (i + 1) := List.set_eq_take_append_cons_drop .. |>.trans (by simp [hi])
  have hf1 : ((xs.take i).flatMap enc).length = i * k := by rw [length_flat henc, List.length_take, Nat.min_eq_left (by omega)]
  have hc : cur.toList.take (xs.length * k) = (xs.take i).flatMap enc ++ (enc xs[i] ++ (xs.drop (i + 1)).flatMap enc) := by
    rw [htk]
    exact (congrArg (List.flatMap enc) hsplit).trans (by rw [List.flatMap_append, List.flatMap_cons])
  have ht : cur.toList.take (i * k) = (xs.take i).flatMap enc := by
    have := congrArg (List.take (i * k)) hc
    rw [List.take_take, Nat.min_eq_left (by omega), List.take_left' hf1] at this
    exact this
  have hd : (cur.toList.take (xs.length * k)).drop (i * k + k) = (xs.drop (i + 1)).flatMap enc := by
    rw [hc, ← List.append_assoc, List.drop_left' (by rw [List.length_append, hf1, henc])]
  rw [hset, List.flatMap_append, List.flatMap_cons, List.take_append, List.take_of_length_le (by simp [henc]; omega), ht, List.append_assoc]
  congr 1
  congr 1
  rw [← hd, List.drop_take]
  congr 1
  simp [hf1, henc]
/-- A beginning of it. -/
theorem OwnL.cut (henc : ∀ x, (enc x).length = k) {w : World} {base g n cap : Nat} {e : TypeId} {xs : List α} (h : OwnL w base e k enc (.slice (some ⟨g, 0, none⟩) n cap) xs) {m : Nat} (hm : m ≤ xs.length) :
    OwnL w base e k enc (.slice (some ⟨g, 0, none⟩) m cap) (xs.take m) := by
  obtain ⟨hn, h1, hb, cur, hh, hnc, hcap, hcs, htk⟩ := h.open
  have hmk : m * k ≤ xs.length * k := Nat.mul_le_mul_right k hm
  refine OwnL.shut (by simp; omega) (by rw [length_flat henc]) hb hh (by simp; omega) hcap hcs ?_
  have e0 : (xs.take m).length = m := by simp; omega
  have := congrArg (List.take (m * k)) htk
  rw [List.take_take, Nat.min_eq_left hmk] at this
  rw [e0, this]
  conv => lhs; rw [← List.take_append_drop m xs]
  rw [List.flatMap_append, List.take_left' (by rw [length_flat henc, e0])]
/-- What lies behind it overwritten. -/
theorem OwnL.behind {w : World} {base g n cap : Nat} {e : TypeId} {xs : List α} (h : OwnL w base e k enc (.slice (some ⟨g, 0, none⟩) n cap) xs) (vs : List Value) {o : Nat} (ho : xs.length * k ≤ o) (hl : o + vs.length ≤ cap * k) :
    OwnL (w.setCells g o vs) base e k enc (.slice (some ⟨g, 0, none⟩) n cap) xs := by
  obtain ⟨hn, h1, hb, cur, hh, hnc, hcap, hcs, htk⟩ := h.open
  refine OwnL.shut hn h1 hb (setCells_block g e (0, 0) vs _ w cur hh) hnc hcap (by simpa using hcs) ?_
  rw [setMany_toList _ _ _ (by omega), List.append_assoc, List.take_append_of_le_length (by simp; omega), List.take_take, Nat.min_eq_left ho]
  exact htk
theorem OwnL.size_le {w : World} {base g n cap : Nat} {e : TypeId} {xs : List α} (h : OwnL w base e k enc (.slice (some ⟨g, 0, none⟩) n cap) xs) : xs.length ≤ cap ∧ cap ≤ maxLen := by
  obtain ⟨hn, h1, hb, cur, hh, hnc, hcap, hcs, htk⟩ := h.open
  exact ⟨hnc, hcap⟩
theorem OwnL.frozenAt {w : World} {base g n cap : Nat} {e : TypeId} {xs : List α} (h : OwnL w base e k enc (.slice (some ⟨g, 0, none⟩) n cap) xs) (o : Nat) : w.frozen? ⟨g, o, none⟩ = false := by
  obtain ⟨hn, _⟩ := h.open
  subst hn
  exact World.ownsRow.frozenAt h o
/-- A cell of a row. -/
theorem OwnL.cellAt (henc : ∀ x, (enc x).length = k) {w : World} {base g n cap : Nat} {e : TypeId} {xs : List α} (h : OwnL w base e k enc (.slice (some ⟨g, 0, none⟩) n cap) xs) {i : Nat} (hi : i < xs.length) {j : Nat} (hj : j < k) {o : Nat} (ho : o = i * k + j) :
    w.cell? ⟨g, o, none⟩ = some ((enc xs[i])[j]'(by rw [henc]; exact hj)) := by
  subst ho
  obtain ⟨hn, _, _⟩ := h.open
  subst hn
  have hlt : i * k + j < xs.length * k := by have := Nat.mul_le_mul_right k (show i + 1 ≤ xs.length from hi); rw [Nat.add_mul, Nat.one_mul] at this; omega
  have hc := World.ownsRow.cellAt h (i * k + j) hlt
  rw [hc]
  have e1 := getD_flatMap enc k henc xs i j hi hj undef
  rw [List.getD_eq_getElem?_getD, List.getElem?_eq_getElem (by rw [length_flat henc]; exact hlt)] at e1
  simp only [Option.getD_some] at e1
  rw [List.getElem?_eq_getElem (by rw [length_flat henc]; exact hlt)]
  rw [e1]
  simp [List.getD_eq_getElem?_getD, henc, hj, hi]
end

/-- A whole block, as a slice of the call's own. -/
theorem own_of_block {α : Type} {enc : α → List Value} {k : Nat} (henc : ∀ x, (enc x).length = k) {w : World} {base g n : Nat} {e : TypeId} (xs : List α) (hb : base ≤ g) (hn : n = xs.length) (hl : xs.length ≤ maxLen) (hh : w.heap[g]? = some (.cells (xs.flatMap enc).toArray e (0, 0))) :
    OwnL w base e k enc (.slice (some ⟨g, 0, none⟩) n n) xs := by
  subst hn
  have h1 := length_flat henc xs
  exact OwnL.shut rfl h1 hb hh (Nat.le_refl _) hl (by simpa using h1) (by rw [← h1]; exact List.take_length)

/-- 'clear(s)', s a slice of n > 0 rows. -/
theorem run_clear_rows {P : Program} (w : World) (t e ty : TypeId) (z : Value) (ht : P.underlying t = some (.slice e)) (hv : ∀ w, (zeroValue e).run P w = .ok z w) (h1 : ∀ i, z.cells.size > 0 → (z.cells[i % z.cells.size]!).oneCell' = true) (b o n c : Nat) (hn : 0 < n)
    (hc : ∀ j, j < n * z.cells.size → (w.cell? ⟨b, o + j, none⟩).isSome = true) (hf : ∀ j, w.frozen? ⟨b, j, none⟩ = false) :
    (Builtin.clear_ #[t] ty #[.slice (some ⟨b, o, none⟩) n c]).run P w = .ok (.tuple #[]) (w.setCells b o (Builtin.zeroCells z.cells n).toList) := by
  have hsz : (Builtin.zeroCells z.cells n).toList.length = n * z.cells.size := by simp [Builtin.zeroCells]
  have hst := run_storeCells_cells (P := P) b o (Builtin.zeroCells z.cells n).toList 0 w (by rw [hsz]; simpa using hc) (fun j _ => hf _) (by
    intro v hv'
    obtain ⟨i, hi, rfl⟩ := List.mem_iff_getElem.1 hv'
    simp only [Builtin.zeroCells, Array.toList_map, List.getElem_map, Array.toList_range, List.getElem_range]
    refine h1 i ?_
    simp [Builtin.zeroCells] at hi
    rcases Nat.eq_zero_or_pos z.cells.size with h0 | h0
    · rw [h0] at hi; omega
    · exact h0)
  simp only [Nat.add_zero] at hst
  obtain ⟨m, rfl⟩ : ∃ m, n = m + 1 := ⟨n - 1, by omega⟩
  simp [Builtin.clear_, run_underlying ht, hv, hst]
theorem zeroCells_length (z : Value) (n : Nat) : (Builtin.zeroCells z.cells n).toList.length = n * z.cells.size := by simp [Builtin.zeroCells]

/-- Compact of what is sorted: rising, and the same. -/
theorem compact_sorted {α : Type} [Inhabited α] [DecidableEq α] {lt : α → α → Bool} (L : Lin lt) (ys : List α) (h : ys.Pairwise fun x y => lt y x = false) : Lib.compact ys = canon lt ys := by
  have hp : ∀ i j, i < j → j < ys.length → lt ys.toArray[j]! ys.toArray[i]! = false := by
    intro i j hij hj
    rw [getElem!_pos ys.toArray j (by simpa using hj), getElem!_pos ys.toArray i (by simp; omega)]
    exact List.pairwise_iff_getElem.1 h i j (by omega) hj hij
  have main : ∀ m, m ≤ ys.length → Rising lt (Lib.compactUpTo ys.toArray m) ∧ ∀ x, x ∈ Lib.compactUpTo ys.toArray m ↔ ∃ j, j < m ∧ ys.toArray[j]! = x := by
    intro m
    induction m with
    | zero => intro _; exact ⟨by simp [Lib.compactUpTo, Rising], by simp [Lib.compactUpTo]⟩
    | succ m ih =>
      intro hm
      obtain ⟨h1, h2⟩ := ih (by omega)
      rw [Lib.compactUpTo_succ]
      cases hk : Lib.keeps ys.toArray m with
      | true =>
        have hne : m = 0 ∨ ys.toArray[m]! ≠ ys.toArray[m - 1]! := by
          unfold Lib.keeps at hk; simpa using hk
        refine ⟨?_, fun x => ?_⟩
        · refine List.pairwise_append.2 ⟨h1, by simp, fun x hx y hy => ?_⟩
          obtain rfl : y = ys.toArray[m]! := by simpa using hy
          obtain ⟨j, hj, rfl⟩ := (h2 x).1 hx
          rcases hne with hne | hne
          · omega
          · cases hlt : lt ys.toArray[j]! ys.toArray[m]! with
            | true => rfl
            | false =>
              have e1 : ys.toArray[j]! = ys.toArray[m]! := L.tri _ _ hlt (hp j m hj (by omega))
              exfalso
              apply hne
              rcases Nat.lt_or_ge j (m - 1) with hj1 | hj1
              · have a1 := hp j (m - 1) hj1 (by omega)
                have a2 := hp (m - 1) m (by omega) (by omega)
                rw [e1] at a1
                exact (L.tri _ _ a1 a2).symm
              · rw [← e1]; congr 1; omega
        · simp only [List.mem_append, h2, if_true, List.mem_singleton]
          constructor
          · rintro (⟨j, hj, rfl⟩ | rfl)
            · exact ⟨j, by omega, rfl⟩
            · exact ⟨m, by omega, rfl⟩
          · rintro ⟨j, hj, rfl⟩
            rcases Nat.lt_or_ge j m with hj1 | hj1
            · exact .inl ⟨j, hj1, rfl⟩
            · exact .inr (by rw [show j = m by omega])
      | false =>
        have hne : m ≠ 0 ∧ ys.toArray[m]! = ys.toArray[m - 1]! := by
          unfold Lib.keeps at hk; simpa using hk
        simp only [Bool.false_eq_true, if_false, List.append_nil]
        refine ⟨h1, fun x => ?_⟩
        rw [h2]
        constructor
        · rintro ⟨j, hj, rfl⟩; exact ⟨j, by omega, rfl⟩
        · rintro ⟨j, hj, rfl⟩
          rcases Nat.lt_or_ge j m with hj1 | hj1
          · exact ⟨j, hj1, rfl⟩
          · exact ⟨m - 1, by omega, by rw [show j = m by omega]; exact hne.2.symm⟩
  obtain ⟨h1, h2⟩ := main ys.length (Nat.le_refl _)
  refine eq_canon L h1 fun x => (h2 x).trans ?_
  constructor
  · rintro ⟨j, hj, rfl⟩; rw [getElem!_pos ys.toArray j (by simpa using hj)]; simp
  · intro hx
    obtain ⟨j, hj, rfl⟩ := List.mem_iff_getElem.1 hx
    exact ⟨j, hj, by rw [getElem!_pos ys.toArray j (by simpa using hj)]; simp⟩
end Go.Proofs.YtnfkjodiielidaaGreatDoor

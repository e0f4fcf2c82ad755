/- How much came in: bulk. -/
import Derived.Test.YtnfkjodiielidaaGreatDoorOpen
import Derived.Test.YtnfkjodiielidaaGreatDoorRows
namespace Go.Proofs.YtnfkjodiielidaaGreatDoor
set_option linter.unusedVariables false
set_option linter.unusedSimpArgs false
open Go.RowKit Go.ChangeShapes Go.WideShapes
set_option maxRecDepth 100000

theorem bk_one {H : Type} (d : DataW H) : 1 ≤ Rows.uptoBulk d := by
  cases d with
  | lit l => cases l <;> simp [Rows.uptoBulk]
  | nil => simp [Rows.uptoBulk]
  | ptr d => simp [Rows.uptoBulk]
  | slice elems spare => simp [Rows.uptoBulk]
  | agg parts => simp [Rows.uptoBulk]
  | iface t d => simp [Rows.uptoBulk]
  | map entries => simp [Rows.uptoBulk]
  | held h => simp [Rows.uptoBulk]
theorem bk_length {H : Type} (l : List (DataW H)) : l.length ≤ Rows.uptoBulkAll l := by
  induction l with
  | nil => simp [Rows.uptoBulkAll]
  | cons x r ih => have := bk_one x; simp only [Rows.uptoBulkAll, List.length_cons]; omega
theorem bk_mem {H : Type} {d : DataW H} {l : List (DataW H)} (h : d ∈ l) : Rows.uptoBulk d ≤ Rows.uptoBulkAll l := by
  induction l with
  | nil => cases h
  | cons x r ih =>
    simp only [Rows.uptoBulkAll]
    rcases List.mem_cons.1 h with e | h
    · subst e; omega
    · have := ih h; omega
theorem bk_sum {H : Type} (q : Nat → Nat) (L : List (DataW H)) : ∀ (s : Nat), (∀ i (h : i < L.length), q (s + i) ≤ Rows.uptoBulk L[i]) → ((List.range' s L.length).map q).sum ≤ Rows.uptoBulkAll L := by
  induction L with
  | nil => intro s _; simp
  | cons x L ih =>
    intro s h
    have h0 := h 0 (by simp)
    have h1 := ih (s + 1) fun i hi => by
      have := h (i + 1) (by simp; omega)
      rw [show s + (i + 1) = s + 1 + i by omega] at this
      simpa using this
    simp only [List.length_cons, List.range'_succ, List.map_cons, List.sum_cons, Rows.uptoBulkAll]
    simp only [Nat.add_zero, List.getElem_cons_zero] at h0
    omega
section
variable {H : Type} {enc : TypeId × Value → H} {w : World} {base : Nat} {spare : Nat → Bool} {held : Bool}
/-- A slice that came in, by rows, with its bulk. -/
theorem open_rows_b {P : Program} {α : Type} {dd : α → List D} {q : α → Nat} {sz : Nat} (hsz : 0 < sz) {t e : TypeId} (ht : P.underlying t = some (.slice e)) (hc : P.cellsOf e = sz) {n : Nat}
    (rd : ∀ n' cs x, n' < n → DataW.trod enc P w base spare held n' e cs = some x → Rows.uptoBulk x.1 ≤ 1048576 → ∃ a : α, (∀ j, j < sz → ∃ u, cs[j]? = some u ∧ RepD (fun _ => True) w ((dd a).getD j (.bool false)) u) ∧ q a ≤ Rows.uptoBulk x.1)
    {cs : List Value} {x : DataW H × List MemPlace} (h : DataW.trod enc P w base spare held n t cs = some x) (hb : Rows.uptoBulk x.1 ≤ 1048576) :
    ∃ (v : Value) (xs : List α), cs = [v] ∧ Slc v ∧ RepD (fun _ => True) w (.slice sz (xs.map dd)) v ∧ (xs.map q).sum + 1 ≤ Rows.uptoBulk x.1 ∧ xs.length + 1 ≤ Rows.uptoBulk x.1 := by
  rcases DataW.trod_slice ht h with ⟨rfl, rfl⟩ | ⟨a, len, cap, elems, rest, n', rfl, rfl, rfl, _, hl, hm, hlen, hx, _⟩
  · exact ⟨_, [], rfl, .inl rfl, .nil sz none 0, by simp [Rows.uptoBulk], by simp [Rows.uptoBulk]⟩
  · simp only [Rows.uptoBulk] at hb ⊢
    have hlb := bk_length (elems.map (·.1))
    simp only [List.length_map, hlen] at hlb
    have hrow0 : ∀ k, k < len → ∃ y : α, ((∀ j, j < sz → ∃ u, w.cell? (a.add (k * sz + j)) = some u ∧ RepD (fun _ => True) w ((dd y).getD j (.bool false)) u)) ∧ ∀ z, elems[k]? = some z → q y ≤ Rows.uptoBulk z.1 := by
      intro k hk
      have h1 := hx k hk
      rw [List.getElem?_eq_getElem (by omega)] at h1
      obtain ⟨cs', h2, h3⟩ := Option.bind_eq_some_iff.1 h1
      rw [hc] at h2
      obtain ⟨_, hlen', hcell⟩ := World.cells?_some h2
      have hbk := bk_mem (List.mem_map.2 ⟨_, List.getElem_mem (show k < elems.length by omega), rfl⟩ : elems[k].1 ∈ elems.map (·.1))
      obtain ⟨y, hy, hq⟩ := rd _ _ _ (by omega) h3 (by omega)
      refine ⟨y, fun j hj => ?_, fun z hz => ?_⟩
      · obtain ⟨u, hu, hr⟩ := hy j hj
        exact ⟨u, by rw [← Go.Deep.add_add, hcell j hj, hu], hr⟩
      · rw [List.getElem?_eq_getElem (by omega)] at hz
        cases hz
        exact hq
    rcases Nat.eq_zero_or_pos len with h0 | h0
    · subst h0
      exact ⟨_, [], rfl, .inr ⟨_, _, _, rfl⟩, .nil sz (some a) cap, by simp, by simp⟩
    · have hspot : a.spot = none := by
        obtain ⟨y, hy, _⟩ := hrow0 0 h0
        obtain ⟨u, hu, _⟩ := hy 0 hsz
        have := World.cell?_spot hu
        unfold Addr.add at this
        split at this <;> simp_all
      obtain ⟨b, off, sp⟩ := a
      simp only at hspot
      subst hspot
      have hadd : ∀ i, (⟨b, off, none⟩ : Addr).add i = ⟨b, off + i, none⟩ := fun i => by unfold Addr.add; simp
      simp only [hadd] at hrow0
      have y0 : α := (hrow0 0 h0).choose
      have : Inhabited α := ⟨y0⟩
      obtain ⟨f, hf⟩ := Go.Deep.choose_lt hrow0
      have hcells : ∀ k, k < len → ∃ g : Nat → Value, ∀ j, j < sz → w.cell? ⟨b, off + k * sz + j, none⟩ = some (g j) ∧ RepD (fun _ => True) w ((dd (f k)).getD j (.bool false)) (g j) := fun k hk => by
        obtain ⟨g, hg⟩ := Go.Deep.choose_lt (hf k hk).1
        exact ⟨g, fun j hj => by rw [Nat.add_assoc]; exact hg j hj⟩
      obtain ⟨us, hus⟩ := Go.Deep.choose_lt hcells
      have hbl : b < w.heap.size := World.block_lt_of_cell? w _ ((hus 0 h0) 0 hsz).1
      have hlen2 : (((List.range len).map f).map dd).length = len := by simp
      have key : RepD (fun _ => True) w (.slice sz (((List.range len).map f).map dd)) (.slice (some ⟨b, off, none⟩) (((List.range len).map f).map dd).length cap) := by
        refine .cons sz _ b off cap us ?_ trivial hbl ?_ ?_ ?_ ?_
        · intro e; have := congrArg List.length e; rw [hlen2] at this; simp at this; omega
        · rw [hlen2]; omega
        · rw [hlen2]; exact hl
        · intro k j hk hj; rw [hlen2] at hk; exact ((hus k hk) j hj).1
        · intro k j hk hj
          rw [hlen2] at hk
          have := ((hus k hk) j hj).2
          unfold D.nth
          rw [List.getD_eq_getElem?_getD (l := ((List.range len).map f).map dd), List.getElem?_eq_getElem (by rw [hlen2]; exact hk)]
          simpa using this
      rw [hlen2] at key
      have hsum := bk_sum (fun i => q (f i)) (elems.map (·.1)) 0 (fun i hi => by
        simp only [List.length_map] at hi
        have := (hf i (by omega)).2 elems[i] (List.getElem?_eq_getElem hi)
        simpa using this)
      refine ⟨_, (List.range len).map f, rfl, .inr ⟨_, _, _, rfl⟩, key, ?_, by simp; omega⟩
      simp only [List.length_map, hlen] at hsum
      rw [List.map_map, List.range_eq_range']
      simp only [Function.comp_def]
      omega
end
end Go.Proofs.YtnfkjodiielidaaGreatDoor

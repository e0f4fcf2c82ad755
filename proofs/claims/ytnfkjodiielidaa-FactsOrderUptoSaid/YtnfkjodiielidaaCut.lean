/- A part of a slice, as data. -/
import Derived.Test.YtnfkjodiielidaaWrow
import Derived.Test.YtnfkjodiielidaaOpen
namespace Go.Proofs.Ytnfkjodiielidaa
set_option linter.unusedVariables false
set_option linter.unusedSimpArgs false
open Go.RowKit

section
variable {α : Type} {dd : α → List D} {sz : Nat} {A : Nat → Prop} {w : World}
theorem RepD.of_rows {xs : List α} {b off c : Nat} {us : Nat → Nat → Value} (h0 : xs ≠ []) (hA : A b) (hlt : b < w.heap.size) (hl : xs.length ≤ 140737488355328) (hc : xs.length ≤ c)
    (hk : ∀ k (hk : k < xs.length), ∀ j, j < sz → w.cell? ⟨b, off + k * sz + j, none⟩ = some (us k j) ∧ RepD A w ((dd xs[k]).getD j (.bool false)) (us k j)) : RepD A w (.slice sz (xs.map dd)) (.slice (some ⟨b, off, none⟩) xs.length c) := by
  have h := RepD.cons (A := A) (w := w) sz (xs.map dd) b off c us (by simpa using h0) hA hlt (by simpa using hl) (by simpa using hc) (fun k j hk' hj => (hk k (by simpa using hk') j hj).1) (fun k j hk' hj => by
    have hk2 : k < xs.length := by simpa using hk'
    have := (hk k hk2 j hj).2
    simpa [D.nth, hk2] using this)
  simpa using h
/-- A beginning. -/
theorem RepD.takeL {xs : List α} {a : Option Addr} {n c : Nat} (hsz : 0 < sz) (h : RepD A w (.slice sz (xs.map dd)) (.slice a n c)) {m : Nat} (hm : m ≤ xs.length) : RepD A w (.slice sz ((xs.take m).map dd)) (.slice a m c) := by
  obtain ⟨a', c', us, hv, hc, hl, hk⟩ := h.rows
  injection hv with e1 e2 e3
  subst e1 e2 e3
  rcases Nat.eq_zero_or_pos m with h0 | h0
  · subst h0; exact .nil sz a c
  · obtain ⟨b, off, rfl, hA, h1⟩ := hk 0 (by omega)
    have hlt : b < w.heap.size := World.block_lt_of_cell? w _ (h1 0 hsz).1
    have hlen : (xs.take m).length = m := by simp; omega
    have := RepD.of_rows (dd := dd) (xs := xs.take m) (b := b) (off := off) (c := c) (us := us) (sz := sz) (A := A) (w := w) (by intro e; have := congrArg List.length e; rw [hlen] at this; simp at this; omega) hA hlt (by omega) (by omega) (fun k hk' j hj => by
      have hk2 : k < xs.length := by omega
      obtain ⟨b', off', e, _, h2⟩ := hk k hk2
      cases e
      have h3 := h2 j hj
      refine ⟨h3.1, ?_⟩
      rw [List.getElem_take]
      exact h3.2)
    rwa [hlen] at this
/-- What is left behind a beginning. -/
theorem RepD.dropL {xs : List α} {b off n c : Nat} (hsz : 0 < sz) (h : RepD A w (.slice sz (xs.map dd)) (.slice (some ⟨b, off, none⟩) n c)) {m : Nat} (hm : m < xs.length) : RepD A w (.slice sz ((xs.drop m).map dd)) (.slice (some ⟨b, off + m * sz, none⟩) (n - m) (c - m)) := by
  obtain ⟨a', c', us, hv, hc, hl, hk⟩ := h.rows
  injection hv with e1 e2 e3
  subst e1 e2 e3
  obtain ⟨b', off', e, hA, h1⟩ := hk 0 (by omega)
  cases e
  have hlt : b < w.heap.size := World.block_lt_of_cell? w _ (h1 0 hsz).1
  have hlen : (xs.drop m).length = xs.length - m := by simp
  have := RepD.of_rows (dd := dd) (xs := xs.drop m) (b := b) (off := off + m * sz) (c := c - m) (us := fun k j => us (m + k) j) (sz := sz) (A := A) (w := w) (by intro e; have := congrArg List.length e; rw [hlen] at this; simp at this; omega) hA hlt (by omega) (by omega) (fun k hk' j hj => by
    have hk2 : m + k < xs.length := by omega
    obtain ⟨b', off', e, _, h2⟩ := hk (m + k) hk2
    cases e
    have h3 := h2 j hj
    rw [Nat.add_mul, ← Nat.add_assoc] at h3
    refine ⟨h3.1, ?_⟩
    rw [List.getElem_drop]
    exact h3.2)
  rwa [hlen] at this
end
section
variable {α : Type} {enc : α → List Value} {k : Nat}
/-- A beginning of the call's own. -/
theorem OwnL.cutL (henc : ∀ x, (enc x).length = k) {w : World} {base n cap : Nat} {a : Option Addr} {e : TypeId} {xs : List α} (h : OwnL w base e k enc (.slice a n cap) xs) {m : Nat} (hm : m ≤ xs.length) : OwnL w base e k enc (.slice a m cap) (xs.take m) := by
  rcases h.2 with ⟨hv, h0⟩ | ⟨g, cap', cur, hv, _⟩
  · injection hv with e1 e2 e3
    subst e1 e2 e3
    obtain rfl : xs = [] := List.eq_nil_of_length_eq_zero h0
    obtain rfl : m = 0 := by simpa using hm
    exact h
  · injection hv with e1 e2 e3
    subst e1
    exact h.cut henc hm
end
end Go.Proofs.Ytnfkjodiielidaa

/- One more in its place: with what stands behind, with what stands ahead; a list made so step by step. -/
import Derived.Test.YtnfkjodiielidaaGreatOrd
namespace Go.Proofs.YtnfkjodiielidaaGreat
set_option linter.unusedVariables false
set_option linter.unusedSimpArgs false
open Go.RowKit

section
variable {α : Type} [DecidableEq α] {lt : α → α → Bool}
theorem ins_yes {t : α} {p q : List α} (h : ∃ x, x ∈ p ∧ lt t x = true) : ins lt t (p ++ q) = ins lt t p ++ q := by
  induction p with
  | nil => obtain ⟨x, hx, _⟩ := h; cases hx
  | cons y p ih =>
    simp only [List.cons_append, ins]
    split
    · rfl
    · rename_i h1
      split
      · rfl
      · obtain ⟨x, hx, hl⟩ := h
        rcases List.mem_cons.1 hx with e | hx
        · subst e; exact absurd hl h1
        · rw [ih ⟨x, hx, hl⟩]; rfl
theorem ins_no {t : α} {p q : List α} (h : ∀ x, x ∈ p → lt t x = false ∧ t ≠ x) : ins lt t (p ++ q) = p ++ ins lt t q := by
  induction p with
  | nil => rfl
  | cons y p ih =>
    obtain ⟨h1, h2⟩ := h y (by simp)
    simp only [List.cons_append, ins, h1, h2, if_false, Bool.false_eq_true]
    rw [ih fun x hx => h x (by simp [hx])]
/-- 'out' is what stands so far, of p with t in its place; done: t is in it. -/
def Ins (lt : α → α → Bool) (t : α) (done : Bool) (out p : List α) : Prop :=
  (done = true ∧ (∃ x, x ∈ p ∧ lt t x = true) ∧ out = ins lt t p) ∨ (done = false ∧ (∀ x, x ∈ p → lt t x = false) ∧ out = p)
theorem Ins.start (t : α) : Ins lt t false [] [] := .inr ⟨rfl, (fun x hx => by cases hx), rfl⟩
theorem Ins.over {t : α} {out p : List α} (h : Ins lt t true out p) (x : α) : Ins lt t true (out ++ [x]) (p ++ [x]) := by
  rcases h with ⟨_, hx, e⟩ | ⟨h, _⟩
  · refine .inl ⟨rfl, ?_, ?_⟩
    · obtain ⟨y, h1, h2⟩ := hx; exact ⟨y, by simp [h1], h2⟩
    · rw [ins_yes hx, e]
  · cases h
theorem Ins.here {t : α} {out p : List α} (h : Ins lt t false out p) (hn : t ∉ p) {x : α} (hx : lt t x = true) : Ins lt t true (out ++ [t] ++ [x]) (p ++ [x]) := by
  rcases h with ⟨h, _⟩ | ⟨_, h1, e⟩
  · cases h
  · refine .inl ⟨rfl, ⟨x, by simp, hx⟩, ?_⟩
    rw [ins_no fun y hy => ⟨h1 y hy, fun e => hn (e ▸ hy)⟩, e]
    simp [ins, hx]
theorem Ins.past {t : α} {out p : List α} (h : Ins lt t false out p) {x : α} (hx : lt t x = false) : Ins lt t false (out ++ [x]) (p ++ [x]) := by
  rcases h with ⟨h, _⟩ | ⟨_, h1, e⟩
  · cases h
  · refine .inr ⟨rfl, fun y hy => ?_, by rw [e]⟩
    rcases List.mem_append.1 hy with hy | hy
    · exact h1 y hy
    · obtain rfl : y = x := by simpa using hy
      exact hx
theorem Ins.fin {t : α} {out p : List α} (h : Ins lt t false out p) (hn : t ∉ p) : out ++ [t] = ins lt t p := by
  rcases h with ⟨h, _⟩ | ⟨_, h1, e⟩
  · cases h
  · have := ins_no (lt := lt) (q := []) fun y hy => ⟨h1 y hy, fun e => hn (e ▸ hy)⟩
    rw [List.append_nil] at this
    rw [this, e]; rfl
theorem Ins.done {t : α} {out p : List α} (h : Ins lt t true out p) : out = ins lt t p := by
  rcases h with ⟨_, _, e⟩ | ⟨h, _⟩
  · exact e
  · cases h
theorem ins_length {t : α} {p : List α} : (ins lt t p).length ≤ p.length + 1 := by
  induction p with
  | nil => simp [ins]
  | cons y l ih => unfold ins; split <;> (try split) <;> simp_all
theorem Ins.length {t : α} {d : Bool} {out p : List α} (h : Ins lt t d out p) : out.length ≤ p.length + 1 := by
  rcases h with ⟨_, _, rfl⟩ | ⟨_, _, rfl⟩
  · exact ins_length
  · omega
theorem ins_mem (L : Lin lt) {t : α} {p : List α} (hp : Rising lt p) (h : t ∈ p) : ins lt t p = p :=
  (rising_ins L t hp).ext L hp fun x => by rw [mem_ins]; exact ⟨fun e => e.elim (fun e => e ▸ h) id, .inr⟩
theorem canon_snoc (L : Lin lt) (S : List α) (t : α) : canon lt (S ++ [t]) = ins lt t (canon lt S) :=
  (eq_canon L (rising_ins L t (rising_canon L S)) fun x => by simp [mem_ins, mem_canon]; exact or_comm).symm
theorem canon_snoc_mem (L : Lin lt) {S : List α} {t : α} (h : t ∈ S) : canon lt (S ++ [t]) = canon lt S :=
  canon_ext L fun x => by simp; rintro rfl; exact h
end
end Go.Proofs.YtnfkjodiielidaaGreat

/- A range over a map whose keys are structs: each pair comes once, in whatever order. -/
import Derived.Test.YtnfkjodiielidaaGreatMaps
import Derived.Maps.RangeRun
import Derived.Maps.Range
namespace Go.Proofs.YtnfkjodiielidaaGreat
set_option linter.unusedVariables false
set_option linter.unusedSimpArgs false
open Go.RowKit

section
variable {α β : Type} {P : Program} {enc : α → Value} {ve : β → Value}
/-- An iterator over a map: what is left of it. -/
def IterAt (w : World) (ib mb : Nat) (enc : α → Value) (ve : β → Value) (S left : List (α × β)) : Prop :=
  ∃ es clock since seen, ib ≠ mb ∧ w.heap[mb]? = some (.map es clock) ∧ MapObj enc ve es clock S ∧ w.heap[ib]? = some (.mapIter (some mb) since seen clock) ∧
    (∀ e ∈ es.toList, e.born < since) ∧ since ≤ clock ∧ EntsOk enc ve (leftOf es seen).toList left

theorem IterAt.map {w : World} {ib mb : Nat} {S left : List (α × β)} (h : IterAt w ib mb enc ve S left) : MapAt w mb enc ve S := by
  obtain ⟨es, clock, since, seen, _, hb, ho, _⟩ := h
  exact ⟨es, clock, hb, ho⟩
theorem IterAt.lt {w : World} {ib mb : Nat} {S left : List (α × β)} (h : IterAt w ib mb enc ve S left) : ib < w.heap.size := by
  obtain ⟨es, clock, since, seen, _, hb, ho, hi, _⟩ := h
  exact (Array.getElem?_eq_some_iff.1 hi).1
theorem IterAt.kept {w w' : World} {ib mb : Nat} {S left : List (α × β)} (h : IterAt w ib mb enc ve S left) (h1 : w'.heap[ib]? = w.heap[ib]?) (h2 : w'.heap[mb]? = w.heap[mb]?) : IterAt w' ib mb enc ve S left := by
  obtain ⟨es, clock, since, seen, hne, hb, ho, hi, r⟩ := h
  exact ⟨es, clock, since, seen, hne, h2.trans hb, ho, h1.trans hi, r⟩
theorem IterAt.below {w w' : World} {ib mb : Nat} {S left : List (α × β)} (h : IterAt w ib mb enc ve S left) (hw : Below w.heap.size w w') : IterAt w' ib mb enc ve S left := h.kept (hw.block ib h.lt) (hw.block mb h.map.lt)
theorem IterAt.fr {M : Nat → Prop} {w w' : World} {ib mb : Nat} {S left : List (α × β)} (h : IterAt w ib mb enc ve S left) (hw : Fr M w w') (h1 : ¬ M ib) (h2 : ¬ M mb) : IterAt w' ib mb enc ve S left := h.kept (hw.block ib h.lt h1) (hw.block mb h.map.lt h2)

theorem IterAt.left_eq {w : World} {ib mb : Nat} {S left : List (α × β)} (h : IterAt w ib mb enc ve S left) : w.rangeLeft mb ib = left.length := by
  obtain ⟨es, clock, since, seen, hne, hb, ho, hi, h1, h2, h3⟩ := h
  have := congrArg List.length h3
  simp only [List.length_map, Array.length_toList] at this
  simp [World.rangeLeft, hb, hi, this]
theorem leftOf_none (es : Array MapEntry) : leftOf es #[] = es := by simp [leftOf]
theorem IterAt.start {w : World} {mb : Nat} {kt et mt : TypeId} {S : List (α × β)} (hm : P.underlying mt = some (.map kt et)) (h : MapAt w mb enc ve S) :
    ∃ o, (Instr.range mt (.map (some mb))).run P w = .ok (.pointer (some ⟨w.heap.size, 0, none⟩)) (w.alloc o) ∧ IterAt (w.alloc o) w.heap.size mb enc ve S S := by
  have hlt := h.lt
  obtain ⟨es, clock, hb, ho⟩ := h
  refine ⟨.mapIter (some mb) clock #[] clock, ?_, es, clock, clock, #[], by omega, ?_, ho, heap_alloc_at rfl, ho.clock, Nat.le_refl _, by rw [leftOf_none]; exact ho.ents⟩
  · unfold Instr.range
    simp only [Sem.run_bind, run_underlying hm, Result.andThen_ok, run_getObj_map hb, Sem.run_pure]
    rfl
  · rw [Below.heap_alloc _ _ _ hlt]; exact hb
theorem ents_mem {es : List MapEntry} {S : List (α × β)} (h : EntsOk enc ve es S) {e : MapEntry} (he : e ∈ es) : ∃ p, p ∈ S ∧ e.key = enc p.1 ∧ e.val = ve p.2 := by
  have h1 : (e.key, e.val) ∈ es.map (fun e => (e.key, e.val)) := List.mem_map.2 ⟨e, he, rfl⟩
  rw [h] at h1
  obtain ⟨p, hp, e1⟩ := List.mem_map.1 h1
  simp only [Prod.mk.injEq] at e1
  exact ⟨p, hp, e1.1.symm, e1.2.symm⟩
/-- One entry fewer, and the pair that it stands for. -/
theorem ents_drop {es : List MapEntry} {S : List (α × β)} (h : EntsOk enc ve es S) (hb : (es.map (·.born)).Nodup) {e : MapEntry} (he : e ∈ es) :
    ∃ p S', S.Perm (p :: S') ∧ e.key = enc p.1 ∧ e.val = ve p.2 ∧ EntsOk enc ve (es.filter fun x => x.born != e.born) S' := by
  induction es generalizing S with
  | nil => cases he
  | cons x es ih =>
    cases S with
    | nil => simp [EntsOk] at h
    | cons q S =>
      simp only [EntsOk, List.map_cons, List.cons.injEq, Prod.mk.injEq] at h
      simp only [List.map_cons, List.nodup_cons] at hb
      by_cases hx : e = x
      · subst hx
        refine ⟨q, S, List.Perm.refl _, h.1.1, h.1.2, ?_⟩
        have : (e :: es).filter (fun x => x.born != e.born) = es := by
          simp only [List.filter_cons, bne_self_eq_false, Bool.false_eq_true, if_false]
          rw [List.filter_eq_self]
          intro y hy
          simp only [bne_iff_ne]
          intro e1
          exact hb.1 (List.mem_map.2 ⟨y, hy, e1⟩)
        rw [this]; exact h.2
      · have he' : e ∈ es := by simpa [hx] using he
        obtain ⟨p, S', hp, h1, h2, h3⟩ := ih h.2 hb.2 he'
        refine ⟨p, q :: S', (List.Perm.cons q hp).trans (List.Perm.swap p q S'), h1, h2, ?_⟩
        have hne : (x.born != e.born) = true := by
          simp only [bne_iff_ne]
          intro e1
          exact hb.1 (e1 ▸ List.mem_map.2 ⟨e, he', rfl⟩)
        simp only [List.filter_cons, hne, if_true]
        simp only [EntsOk, List.map_cons, List.cons.injEq, Prod.mk.injEq]
        exact ⟨h.1, h3⟩
theorem born_nodup {es : List MapEntry} (h : es.Pairwise fun x y => x.born < y.born) : (es.map (·.born)).Nodup := by
  rw [List.Nodup, List.pairwise_map]
  exact h.imp fun h => Nat.ne_of_lt h
theorem leftOf_push (es : Array MapEntry) (seen : Array Nat) (b : Nat) : (leftOf es (seen.push b)).toList = (leftOf es seen).toList.filter fun x => x.born != b := by
  unfold leftOf
  simp only [Array.toList_filter, List.filter_filter]
  apply List.filter_congr
  intro x _
  simp only [Array.contains_push]
  cases seen.contains x.born <;> simp [bne]
/-- One step: nothing is left; or one of those that are left comes. -/
theorem IterAt.next {w : World} {ib mb : Nat} {S left : List (α × β)} (h : IterAt w ib mb enc ve S left) :
    (left = [] ∧ ∀ ty, (Instr.next (.pointer (some ⟨ib, 0, none⟩)) false ty).run P w = .ok (.tuple #[.bool false]) w) ∨
    ∃ p left' w', left.Perm (p :: left') ∧ (∀ ty, (Instr.next (.pointer (some ⟨ib, 0, none⟩)) false ty).run P w = .ok (.tuple #[.bool true, enc p.1, ve p.2]) w') ∧ IterAt w' ib mb enc ve S left' ∧
      Fr (fun k => k = ib) w w' ∧ w'.heap.size = w.heap.size ∧ (Instr.entry (.pointer (some ⟨ib, 0, none⟩))).run P w' = .ok (.tuple #[enc p.1, ve p.2]) w' := by
  have hlt := h.lt
  obtain ⟨es, clock, since, seen, hne, hb, ho, hi, h1, h2, h3⟩ := h
  have hn := born_nodup ho.born
  rcases Nat.eq_zero_or_pos (leftOf es seen).size with h0 | h0
  · left
    have hl : left = [] := by
      have := congrArg List.length h3
      simp only [List.length_map, Array.length_toList, h0] at this
      exact List.eq_nil_of_length_eq_zero this.symm
    refine ⟨hl, fun ty => ?_⟩
    rcases run_next_at (P := P) w ty ib mb since clock seen es clock hi hb h1 h2 with ⟨_, hr⟩ | ⟨e, he, _⟩
    · exact hr
    · have : (leftOf es seen).toList = [] := List.eq_nil_of_length_eq_zero (by simpa using h0)
      rw [this] at he; cases he
  · right
    rcases run_next_at (P := P) w 0 ib mb since clock seen es clock hi hb h1 h2 with ⟨h00, _⟩ | ⟨e, he, w1, hw1, hr⟩
    · omega
    · have hsub : ∀ x ∈ (leftOf es seen).toList, x ∈ es.toList := fun x hx => by simp [leftOf] at hx ⊢; exact hx.1
      have hn2 : ((leftOf es seen).toList.map (·.born)).Nodup := by
        have : (leftOf es seen).toList.Sublist es.toList := by unfold leftOf; rw [Array.toList_filter]; exact List.filter_sublist
        exact List.Sublist.nodup (this.map _) hn
      obtain ⟨p, S', hp, hk, hv, hS'⟩ := ents_drop h3 hn2 he
      have hheap : w1.heap = w.heap := by rcases hw1 with rfl | rfl <;> rfl
      refine ⟨p, S', Go.ChangeMaps.setBlock w1 ib (.mapIter (some mb) since (seen.push e.born) clock), hp, fun ty => ?_, ⟨es, clock, since, seen.push e.born, hne, ?_, ho, ?_, h1, h2, by rw [leftOf_push]; exact hS'⟩, ?_, ?_, ?_⟩
      · rw [← hk, ← hv]; exact hr
      · simp only [Go.ChangeMaps.setBlock, hheap, Array.getElem?_setIfInBounds]; rw [if_neg hne]; exact hb
      · simp only [Go.ChangeMaps.setBlock, hheap]; simp [hlt]
      · refine ⟨?_, ?_, ?_, by simp [Go.ChangeMaps.setBlock, hheap], fun k hk hkn => ?_⟩
        · rcases hw1 with rfl | rfl <;> rfl
        · rcases hw1 with rfl | rfl <;> rfl
        · rcases hw1 with rfl | rfl <;> rfl
        · simp only [Go.ChangeMaps.setBlock, hheap, Array.getElem?_setIfInBounds]; rw [if_neg (fun e => hkn e.symm)]
      · simp [Go.ChangeMaps.setBlock, hheap]
      · rw [← hk, ← hv]
        refine run_entry_at _ ib mb since seen es clock e ?_ ?_ (hsub e he) hn
        · simp only [Go.ChangeMaps.setBlock, hheap]; simp [hlt]
        · simp only [Go.ChangeMaps.setBlock, hheap, Array.getElem?_setIfInBounds]; rw [if_neg hne]; exact hb
end
end Go.Proofs.YtnfkjodiielidaaGreat

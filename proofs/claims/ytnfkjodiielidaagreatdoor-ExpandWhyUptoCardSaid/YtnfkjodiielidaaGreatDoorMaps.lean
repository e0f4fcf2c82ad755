/- Maps whose keys are structs: what each operation does, told by a list of pairs; a range over one. -/
/- A range over a map whose keys are structs: each pair comes once, in whatever order. -/
import Derived.Test.YtnfkjodiielidaaGreatDoorOrd
import Derived.Carry
import Derived.Maps.RangeRun
import Derived.Maps.Range
namespace Go.Proofs.YtnfkjodiielidaaGreatDoor
set_option linter.unusedVariables false
set_option linter.unusedSimpArgs false
open Go.RowKit

def setB (w : World) (b : Nat) (o : Obj) : World := { w with heap := w.heap.setIfInBounds b o }
theorem setB_same {w : World} {b : Nat} {o : Obj} (h : b < w.heap.size) : (setB w b o).heap[b]? = some o := by simp [setB, h]
theorem setB_other {w : World} {b k : Nat} {o : Obj} (h : k ≠ b) : (setB w b o).heap[k]? = w.heap[k]? := by simp [setB, Array.getElem?_setIfInBounds]; omega
theorem setB_size {w : World} {b : Nat} {o : Obj} : (setB w b o).heap.size = w.heap.size := by simp [setB]
theorem setB_fr (w : World) (b : Nat) (o : Obj) : Fr (fun k => k = b) w (setB w b o) := ⟨rfl, rfl, rfl, by simp [setB_size], fun k _ hk => setB_other hk⟩

structure KeyT (P : Program) (kt : TypeId) {α : Type} [DecidableEq α] (enc : α → Value) : Prop where
  check : ∀ (w : World) (b : Bool) (x : α), (Instr.checkKey b 10000 kt (enc x)).run P w = .ok () w
  eq : ∀ (w : World) (x y : α), (Op.equal kt (enc x) (enc y)).run P w = .ok (decide (x = y)) w
  now : ∃ d, P.underlying kt = some d ∧ ∀ v v', Instr.sameNow d v v' = none
  bits : ∀ x, Instr.sameBits 10000 (enc x) (enc x) = true

section
variable {α β : Type} [DecidableEq α]
def seek (k : α) : List (α × β) → Nat → Option (Nat × β)
  | [], _ => none
  | p :: S, i => if k = p.1 then some (i, p.2) else seek k S (i + 1)
def look (k : α) (S : List (α × β)) : Option β := (seek k S 0).map (·.2)
def putM (k : α) (v : β) : List (α × β) → List (α × β)
  | [] => [(k, v)]
  | p :: S => if k = p.1 then (k, v) :: S else p :: putM k v S
def delM (k : α) : List (α × β) → List (α × β)
  | [] => []
  | p :: S => if k = p.1 then S else p :: delM k S
theorem seek_succ (k : α) (S : List (α × β)) (i : Nat) : seek k S (i + 1) = (seek k S i).map fun q => (q.1 + 1, q.2) := by
  induction S generalizing i with
  | nil => rfl
  | cons p S ih => unfold seek; split <;> simp [ih]
theorem look_cons (k : α) (p : α × β) (S : List (α × β)) : look k (p :: S) = if k = p.1 then some p.2 else look k S := by
  unfold look
  rw [seek]
  split
  · rfl
  · rw [seek_succ]; cases seek k S 0 <;> rfl
theorem look_none {k : α} {S : List (α × β)} : look k S = none ↔ k ∉ S.map (·.1) := by
  induction S with
  | nil => simp [look, seek]
  | cons p S ih => rw [look_cons]; split <;> simp_all
theorem look_some {k : α} {v : β} {S : List (α × β)} (h : look k S = some v) : (k, v) ∈ S := by
  induction S with
  | nil => simp [look, seek] at h
  | cons p S ih =>
    rw [look_cons] at h
    split at h
    · rename_i e; simp at h; subst e; subst h; simp
    · simp [ih h]
theorem look_of_mem {k : α} {v : β} {S : List (α × β)} (hn : (S.map (·.1)).Nodup) (h : (k, v) ∈ S) : look k S = some v := by
  induction S with
  | nil => cases h
  | cons p S ih =>
    rw [look_cons]
    simp only [List.map_cons, List.nodup_cons] at hn
    rcases List.mem_cons.1 h with e | h
    · subst e; simp
    · have : k ≠ p.1 := fun e => hn.1 (e ▸ List.mem_map.2 ⟨_, h, rfl⟩)
      simp [this, ih hn.2 h]
theorem putM_keys (k : α) (v : β) (S : List (α × β)) : (putM k v S).map (·.1) = if k ∈ S.map (·.1) then S.map (·.1) else S.map (·.1) ++ [k] := by
  induction S with
  | nil => simp [putM]
  | cons p S ih =>
    unfold putM
    split
    · rename_i e; simp [e]
    · rename_i e
      rw [List.map_cons, ih, List.map_cons]
      by_cases h : k ∈ S.map (·.1)
      · rw [if_pos h, if_pos (List.mem_cons_of_mem _ h)]
      · rw [if_neg h, if_neg (by simp only [List.mem_cons, not_or]; exact ⟨e, h⟩)]; rfl
theorem look_putM (k j : α) (v : β) (S : List (α × β)) : look j (putM k v S) = if j = k then some v else look j S := by
  induction S with
  | nil => simp [putM, look_cons]
  | cons p S ih =>
    unfold putM
    split
    · rename_i e; rw [look_cons, look_cons]; simp only; subst e; split <;> rfl
    · rename_i e; rw [look_cons, look_cons, ih]; split
      · rename_i e2; subst e2; simp [Ne.symm e]
      · rfl
theorem putM_nodup (k : α) (v : β) (S : List (α × β)) (h : (S.map (·.1)).Nodup) : ((putM k v S).map (·.1)).Nodup := by
  rw [putM_keys]
  split
  · exact h
  · rename_i hk
    rw [List.nodup_append]
    exact ⟨h, by simp, by intro a ha b hb; simp at hb; subst hb; exact fun e => hk (e ▸ ha)⟩
theorem putM_length (k : α) (v : β) (S : List (α × β)) : (putM k v S).length = if k ∈ S.map (·.1) then S.length else S.length + 1 := by
  have h := congrArg List.length (putM_keys k v S)
  simp only [List.length_map] at h
  rw [h]
  split <;> simp
theorem delM_keys (k : α) (S : List (α × β)) : (delM k S).map (·.1) = (S.map (·.1)).erase k := by
  induction S with
  | nil => rfl
  | cons p S ih =>
    unfold delM
    rw [List.map_cons, List.erase_cons]
    split
    · rename_i e; simp [e]
    · rename_i e; simp [ih, Ne.symm e]
theorem delM_sub (k : α) (S : List (α × β)) : (delM k S).Sublist S := by
  induction S with
  | nil => exact List.Sublist.refl _
  | cons p S ih =>
    unfold delM
    split
    · exact List.sublist_cons_self _ _
    · exact ih.cons_cons _
theorem look_delM (k j : α) (S : List (α × β)) (hn : (S.map (·.1)).Nodup) : look j (delM k S) = if j = k then none else look j S := by
  induction S with
  | nil => simp [delM, look, seek]
  | cons p S ih =>
    simp only [List.map_cons, List.nodup_cons] at hn
    unfold delM
    split
    · rename_i e
      rw [look_cons]
      split
      · rename_i e2; subst e2; subst e; exact look_none.2 hn.1
      · rename_i e2; rw [if_neg (fun h => e2 (by rw [h, e]))]
    · rename_i e
      rw [look_cons, look_cons, ih hn.2]
      split
      · rename_i e2; subst e2; rw [if_neg (Ne.symm e)]
      · rfl

end
/-! ### In memory -/
section
variable {α β : Type}
def EntsOk (enc : α → Value) (ve : β → Value) (es : List MapEntry) (S : List (α × β)) : Prop := es.map (fun e => (e.key, e.val)) = S.map (fun p => (enc p.1, ve p.2))
structure MapObj (enc : α → Value) (ve : β → Value) (es : Array MapEntry) (clock : Nat) (S : List (α × β)) : Prop where
  ents : EntsOk enc ve es.toList S
  nodup : (S.map (·.1)).Nodup
  born : es.toList.Pairwise fun x y => x.born < y.born
  clock : ∀ e ∈ es.toList, e.born < clock
def MapAt (w : World) (mb : Nat) (enc : α → Value) (ve : β → Value) (S : List (α × β)) : Prop := ∃ es clock, w.heap[mb]? = some (.map es clock) ∧ MapObj enc ve es clock S

theorem MapAt.lt {w : World} {mb : Nat} {enc : α → Value} {ve : β → Value} {S : List (α × β)} (h : MapAt w mb enc ve S) : mb < w.heap.size := by
  obtain ⟨es, clock, hb, _⟩ := h
  exact (Array.getElem?_eq_some_iff.1 hb).1
theorem MapAt.kept {w w' : World} {mb : Nat} {enc : α → Value} {ve : β → Value} {S : List (α × β)} (h : MapAt w mb enc ve S) (hw : w'.heap[mb]? = w.heap[mb]?) : MapAt w' mb enc ve S := by
  obtain ⟨es, clock, hb, ho⟩ := h
  exact ⟨es, clock, hw.trans hb, ho⟩
theorem MapAt.below {w w' : World} {mb : Nat} {enc : α → Value} {ve : β → Value} {S : List (α × β)} (h : MapAt w mb enc ve S) (hw : Below w.heap.size w w') : MapAt w' mb enc ve S := h.kept (hw.block mb h.lt)
theorem MapAt.fr {M : Nat → Prop} {w w' : World} {mb : Nat} {enc : α → Value} {ve : β → Value} {S : List (α × β)} (h : MapAt w mb enc ve S) (hw : Fr M w w') (hm : ¬ M mb) : MapAt w' mb enc ve S := h.kept (hw.block mb h.lt hm)
theorem MapAt.made (w : World) (enc : α → Value) (ve : β → Value) : MapAt (w.alloc (.map #[] 0)) w.heap.size enc ve ([] : List (α × β)) :=
  ⟨#[], 0, heap_alloc_at rfl, ⟨rfl, List.nodup_nil, List.Pairwise.nil, by simp⟩⟩
theorem MapAt.nodup {w : World} {mb : Nat} {enc : α → Value} {ve : β → Value} {S : List (α × β)} (h : MapAt w mb enc ve S) : (S.map (·.1)).Nodup := by obtain ⟨_, _, _, ho⟩ := h; exact ho.nodup

end
section
variable {α β : Type} [DecidableEq α]
variable {P : Program} {kt : TypeId} {enc : α → Value} {ve : β → Value}
theorem run_findAsking (K : KeyT P kt enc) (w : World) (k : α) (es : List MapEntry) (S : List (α × β)) (h : EntsOk enc ve es S) (i : Nat) :
    (Instr.findAsking kt (enc k) es i).run P w = .ok ((seek k S i).map fun q => (q.1, ve q.2)) w := by
  induction es generalizing S i with
  | nil =>
    cases S with
    | nil => rfl
    | cons p S => simp [EntsOk] at h
  | cons e es ih =>
    cases S with
    | nil => simp [EntsOk] at h
    | cons p S =>
      simp only [EntsOk, List.map_cons, List.cons.injEq, Prod.mk.injEq] at h
      obtain ⟨⟨h1, h2⟩, h3⟩ := h
      unfold Instr.findAsking
      rw [h1]
      simp only [Sem.run_bind, K.eq, Result.andThen_ok]
      unfold seek
      by_cases hk : k = p.1
      · simp [hk, h2]
      · simp [hk]; exact ih S h3 (i + 1)
theorem run_findKey (K : KeyT P kt enc) (w : World) (k : α) (es : List MapEntry) (S : List (α × β)) (h : EntsOk enc ve es S) :
    (Instr.findKey kt (enc k) es).run P w = .ok ((seek k S 0).map fun q => (q.1, ve q.2)) w := by
  obtain ⟨d, hd, hn⟩ := K.now
  unfold Instr.findKey
  simp only [Sem.run_bind, run_underlying hd, Result.andThen_ok]
  cases es with
  | nil =>
    cases S with
    | nil => rfl
    | cons p S => simp [EntsOk] at h
  | cons e es =>
    simp only [Instr.findNow, hn]
    exact run_findAsking K w k _ S h 0

theorem run_getObj_map {w : World} {r : Nat} {es : Array MapEntry} {c : Nat} (h : w.heap[r]? = some (.map es c)) : (getObj r).run P w = .ok (.map es c) w := by
  simp [getObj, Sem.run, h]
theorem run_setObj_map {w : World} {r : Nat} {es : Array MapEntry} {c : Nat} (h : w.heap[r]? = some (.map es c)) (o : Obj) : (setObj r o).run P w = .ok () (setB w r o) := by
  simp [setObj, Sem.run, h, setB]

theorem run_lookup (K : KeyT P kt enc) {mt et : TypeId} (hm : P.underlying mt = some (.map kt et)) {z : Value} {w : World} (hz : (zeroValue et).run P w = .ok z w) {mb : Nat} {S : List (α × β)} (h : MapAt w mb enc ve S) (k : α) (c : Bool) :
    (Instr.lookup mt (.map (some mb)) (enc k) c).run P w = .ok (if c then .tuple #[((look k S).map ve).getD z, .bool (look k S).isSome] else ((look k S).map ve).getD z) w := by
  obtain ⟨es, clock, hb, ho⟩ := h
  unfold Instr.lookup
  simp only [Sem.run_bind, run_underlying hm, Result.andThen_ok, run_getObj_map hb, Sem.run_pure, K.check, run_findKey K w k es.toList S ho.ents]
  unfold look
  cases hs : seek k S 0 with
  | none => simp [hz]
  | some q => simp

theorem ents_modify {es : List MapEntry} {S : List (α × β)} (h : EntsOk enc ve es S) (k : α) (v : β) (j : Nat) (u : β) (hs : seek k S 0 = some (j, u)) :
    EntsOk enc ve (es.modify j fun e => { e with key := enc k, val := ve v }) (putM k v S) := by
  induction es generalizing S j with
  | nil =>
    cases S with
    | nil => simp [seek] at hs
    | cons p S => simp [EntsOk] at h
  | cons e es ih =>
    cases S with
    | nil => simp [seek] at hs
    | cons p S =>
      simp only [EntsOk, List.map_cons, List.cons.injEq] at h
      unfold seek at hs
      unfold putM
      split at hs
      · rename_i hk
        simp at hs
        obtain ⟨rfl, _⟩ := hs
        simp only [hk, if_true]
        simpa [EntsOk] using h.2
      · rename_i hk
        rw [seek_succ] at hs
        simp only [Option.map_eq_some_iff, Prod.mk.injEq] at hs
        obtain ⟨⟨j', u'⟩, hs', rfl, rfl⟩ := hs
        rw [if_neg hk]
        simp only [List.modify_succ_cons, EntsOk, List.map_cons, List.cons.injEq]
        exact ⟨h.1, ih h.2 _ hs'⟩
theorem ents_erase {es : List MapEntry} {S : List (α × β)} (h : EntsOk enc ve es S) (k : α) (j : Nat) (u : β) (hs : seek k S 0 = some (j, u)) :
    EntsOk enc ve (es.eraseIdx j) (delM k S) := by
  induction es generalizing S j with
  | nil =>
    cases S with
    | nil => simp [seek] at hs
    | cons p S => simp [EntsOk] at h
  | cons e es ih =>
    cases S with
    | nil => simp [seek] at hs
    | cons p S =>
      simp only [EntsOk, List.map_cons, List.cons.injEq] at h
      unfold seek at hs
      unfold delM
      split at hs
      · rename_i hk
        simp at hs
        obtain ⟨rfl, _⟩ := hs
        simp only [hk, if_true]
        exact h.2
      · rename_i hk
        rw [seek_succ] at hs
        simp only [Option.map_eq_some_iff, Prod.mk.injEq] at hs
        obtain ⟨⟨j', u'⟩, hs', rfl, rfl⟩ := hs
        rw [if_neg hk]
        simp only [List.eraseIdx_cons_succ, EntsOk, List.map_cons, List.cons.injEq]
        exact ⟨h.1, ih h.2 _ hs'⟩
theorem seek_some_lt {k : α} {S : List (α × β)} {i j : Nat} {u : β} (h : seek k S i = some (j, u)) : i ≤ j ∧ j < i + S.length ∧ k ∈ S.map (·.1) := by
  induction S generalizing i with
  | nil => simp [seek] at h
  | cons p S ih =>
    unfold seek at h
    split at h
    · rename_i hk; simp at h; simp [← h.1, hk]
    · obtain ⟨h1, h2, h3⟩ := ih h; simp; exact ⟨by omega, by omega, .inr (by simpa using h3)⟩
theorem putM_none {k : α} {v : β} {S : List (α × β)} (h : seek k S 0 = none) : putM k v S = S ++ [(k, v)] := by
  induction S with
  | nil => rfl
  | cons p S ih =>
    unfold seek at h
    split at h
    · cases h
    · rename_i hk
      rw [seek_succ] at h
      unfold putM
      rw [if_neg hk, ih (by simpa using h)]
      rfl
theorem ents_keyAt {es : List MapEntry} {S : List (α × β)} (h : EntsOk enc ve es S) (k : α) (j : Nat) (u : β) (hs : seek k S 0 = some (j, u)) : ((es[j]?).map (·.key)).getD (enc k) = enc k := by
  induction es generalizing S j with
  | nil => simp
  | cons e es ih =>
    cases S with
    | nil => simp [EntsOk] at h
    | cons p S =>
      simp only [EntsOk, List.map_cons, List.cons.injEq, Prod.mk.injEq] at h
      unfold seek at hs
      split at hs
      · rename_i hk; simp at hs; rw [← hs.1]; simp [h.1.1, hk]
      · rw [seek_succ] at hs
        simp only [Option.map_eq_some_iff, Prod.mk.injEq] at hs
        obtain ⟨⟨j', u'⟩, hs', rfl, rfl⟩ := hs
        simpa using ih h.2 _ hs'

theorem run_mapUpdate (K : KeyT P kt enc) {mt et : TypeId} (hm : P.underlying mt = some (.map kt et)) {w : World} {mb : Nat} {S : List (α × β)} (h : MapAt w mb enc ve S) (k : α) (v : β) :
    ∃ o, (Instr.mapUpdate mt (.map (some mb)) (enc k) (ve v)).run P w = .ok () (setB w mb o) ∧ MapAt (setB w mb o) mb enc ve (putM k v S) := by
  have hlt := h.lt
  obtain ⟨es, clock, hb, ho⟩ := h
  unfold Instr.mapUpdate
  simp only [Sem.run_bind, run_underlying hm, Result.andThen_ok, run_getObj_map hb, K.check, run_findKey K w k es.toList S ho.ents]
  cases hs : seek k S 0 with
  | none =>
    refine ⟨.map (es.push { key := enc k, val := ve v, born := clock }) (clock + 1), ?_, _, _, setB_same hlt, ?_⟩
    · simp only [Option.map_none]; exact run_setObj_map hb _
    · refine ⟨?_, putM_nodup k v S ho.nodup, ?_, ?_⟩
      · rw [putM_none hs]
        simp only [EntsOk, Array.toList_push, List.map_append, List.map_cons, List.map_nil]
        rw [ho.ents]
      · rw [Array.toList_push, List.pairwise_append]
        exact ⟨ho.born, List.pairwise_singleton _ _, fun a ha b hb' => by simp at hb'; subst hb'; exact ho.clock a ha⟩
      · intro e he
        rw [Array.toList_push, List.mem_append] at he
        rcases he with he | he
        · have := ho.clock e he; omega
        · simp at he; subst he; simp
  | some q =>
    obtain ⟨j, u⟩ := q
    refine ⟨.map (es.modify j fun e => { e with key := enc k, val := ve v }) clock, ?_, _, _, setB_same hlt, ?_⟩
    · simp only [Option.map_some]
      have hk : ((es[j]?).map (·.key)).getD (enc k) = enc k := by
        have := ents_keyAt ho.ents k j u hs
        rwa [Array.getElem?_toList] at this
      simp only [Sem.run_bind, Instr.keyThatStays, hk, K.bits, if_true, Sem.run_pure, Result.andThen_ok]
      exact run_setObj_map hb _
    · refine ⟨?_, putM_nodup k v S ho.nodup, ?_, ?_⟩
      · rw [Array.toList_modify]; exact ents_modify ho.ents k v j u hs
      · have hbm : ((es.modify j fun e => { e with key := enc k, val := ve v }).toList.map (·.born)) = es.toList.map (·.born) := by
          rw [Array.toList_modify]
          apply List.ext_getElem?
          intro n
          simp only [List.getElem?_map, List.getElem?_modify]
          by_cases hn : j = n
          · subst hn; cases es.toList[j]? <;> simp
          · simp [hn]
        have h1 := List.pairwise_map.2 ho.born
        rw [← hbm] at h1
        exact List.pairwise_map.1 h1
      · intro e he
        rw [Array.toList_modify] at he
        obtain ⟨n, hn⟩ := List.mem_iff_getElem?.1 he
        rw [List.getElem?_modify] at hn
        cases he2 : es.toList[n]? with
        | none => rw [he2] at hn; cases hn
        | some e2 =>
          rw [he2] at hn
          have := ho.clock e2 (List.mem_iff_getElem?.2 ⟨n, he2⟩)
          simp at hn
          subst hn
          split <;> exact this

theorem run_delete (K : KeyT P kt enc) {mt et ty : TypeId} {ats : Array TypeId} (ha : ats[0]? = some mt) (hm : P.underlying mt = some (.map kt et)) {w : World} {mb : Nat} {S : List (α × β)} (h : MapAt w mb enc ve S) (k : α) :
    ∃ o, (Builtin.delete_ ats ty #[.map (some mb), enc k]).run P w = .ok (.tuple #[]) (setB w mb o) ∧ MapAt (setB w mb o) mb enc ve (delM k S) := by
  have hlt := h.lt
  obtain ⟨es, clock, hb, ho⟩ := h
  unfold Builtin.delete_
  simp only [ha, List.getElem?_toArray, List.getElem?_cons_zero, List.getElem?_cons_succ, Sem.run_bind, run_underlying hm, Result.andThen_ok, run_getObj_map hb, K.check, run_findKey K w k es.toList S ho.ents]
  cases hs : seek k S 0 with
  | none =>
    refine ⟨.map es clock, ?_, _, _, setB_same hlt, ?_⟩
    · simp only [Option.map_none, Sem.run_bind, run_setObj_map hb, Result.andThen_ok, Sem.run_pure]
    · have : delM k S = S := by
        have h1 : k ∉ S.map (·.1) := look_none.1 (by simp [look, hs])
        clear hs ho
        induction S with
        | nil => rfl
        | cons p S ih => simp at h1; unfold delM; rw [if_neg h1.1, ih (by simpa using h1.2)]
      rw [this]; exact ho
  | some q =>
    obtain ⟨j, u⟩ := q
    refine ⟨.map (es.eraseIdxIfInBounds j) clock, ?_, _, _, setB_same hlt, ?_⟩
    · simp only [Option.map_some, Sem.run_bind, run_setObj_map hb, Result.andThen_ok, Sem.run_pure]
    · have e : (es.eraseIdxIfInBounds j).toList = es.toList.eraseIdx j := by
        rw [Array.eraseIdxIfInBounds]
        split
        · simp
        · rename_i hj; rw [List.eraseIdx_of_length_le]; simpa using hj
      refine ⟨by rw [e]; exact ents_erase ho.ents k j u hs, ?_, ?_, ?_⟩
      · rw [delM_keys]; exact ho.nodup.erase _
      · rw [e]; exact List.Pairwise.sublist (List.eraseIdx_sublist _ _) ho.born
      · intro x hx; rw [e] at hx; exact ho.clock x ((List.eraseIdx_sublist _ _).mem hx)

end
section
variable {α β : Type} {P : Program} {kt : TypeId} {enc : α → Value} {ve : β → Value}
theorem run_len_map {mt et ty : TypeId} {ats : Array TypeId} (ha : ats[0]? = some mt) (hm : P.underlying mt = some (.map kt et)) {w : World} {mb : Nat} {S : List (α × β)} (h : MapAt w mb enc ve S) :
    (Builtin.len_ ats ty #[.map (some mb)]).run P w = .ok (.int .i64 S.length) w := by
  obtain ⟨es, clock, hb, ho⟩ := h
  have hl := congrArg List.length ho.ents
  simp at hl
  unfold Builtin.len_
  simp only [ha, List.getElem?_toArray, List.getElem?_cons_zero, Sem.run_bind, run_underlying hm, Result.andThen_ok, run_getObj_map hb, Sem.run_pure, hl]
  rfl
end
end Go.Proofs.YtnfkjodiielidaaGreatDoor
namespace Go.Proofs.YtnfkjodiielidaaGreatDoor
set_option linter.unusedVariables false
set_option linter.unusedSimpArgs false
open Go.RowKit

section
variable {α β : Type} {P : Program} {enc : α → Value} {ve : β → Value}
/-- An iterator over a map: what is left of it. -/
def IterAt (w : World) (ib mb : Nat) (enc : α → Value) (ve : β → Value) (S left : List (α × β)) : Prop :=
  ∃ es clock since seen, ib ≠ mb ∧ w.heap[mb]? = some (.map es clock) ∧ MapObj enc ve es clock S ∧ w.heap[ib]? = some (.mapIter (some mb) since seen clock) ∧
    (∀ e ∈ es.toList, e.born < since) ∧ since ≤ clock ∧ EntsOk enc ve (leftOf es seen).toList left

theorem IterAt.map {w : World} {ib mb : Nat} {S left : List (α × β)} (h : IterAt w ib mb enc ve S left) : MapAt w mb enc ve S := by
  obtain ⟨es, clock, since, seen, _, hb, ho, _⟩ := h
  exact ⟨es, clock, hb, ho⟩
theorem IterAt.lt {w : World} {ib mb : Nat} {S left : List (α × β)} (h : IterAt w ib mb enc ve S left) : ib < w.heap.size := by
  obtain ⟨es, clock, since, seen, _, hb, ho, hi, _⟩ := h
  exact (Array.getElem?_eq_some_iff.1 hi).1
theorem IterAt.kept {w w' : World} {ib mb : Nat} {S left : List (α × β)} (h : IterAt w ib mb enc ve S left) (h1 : w'.heap[ib]? = w.heap[ib]?) (h2 : w'.heap[mb]? = w.heap[mb]?) : IterAt w' ib mb enc ve S left := by
  obtain ⟨es, clock, since, seen, hne, hb, ho, hi, r⟩ := h
  exact ⟨es, clock, since, seen, hne, h2.trans hb, ho, h1.trans hi, r⟩
theorem IterAt.below {w w' : World} {ib mb : Nat} {S left : List (α × β)} (h : IterAt w ib mb enc ve S left) (hw : Below w.heap.size w w') : IterAt w' ib mb enc ve S left := h.kept (hw.block ib h.lt) (hw.block mb h.map.lt)
theorem IterAt.fr {M : Nat → Prop} {w w' : World} {ib mb : Nat} {S left : List (α × β)} (h : IterAt w ib mb enc ve S left) (hw : Fr M w w') (h1 : ¬ M ib) (h2 : ¬ M mb) : IterAt w' ib mb enc ve S left := h.kept (hw.block ib h.lt h1) (hw.block mb h.map.lt h2)

theorem IterAt.left_eq {w : World} {ib mb : Nat} {S left : List (α × β)} (h : IterAt w ib mb enc ve S left) : w.rangeLeft mb ib = left.length := by
  obtain ⟨es, clock, since, seen, hne, hb, ho, hi, h1, h2, h3⟩ := h
  have := congrArg List.length h3
  simp only [List.length_map, Array.length_toList] at this
  simp [World.rangeLeft, hb, hi, this]
theorem leftOf_none (es : Array MapEntry) : leftOf es #[] = es := by simp [leftOf]
theorem IterAt.start {w : World} {mb : Nat} {kt et mt : TypeId} {S : List (α × β)} (hm : P.underlying mt = some (.map kt et)) (h : MapAt w mb enc ve S) :
    ∃ o, (Instr.range mt (.map (some mb))).run P w = .ok (.pointer (some ⟨w.heap.size, 0, none⟩)) (w.alloc o) ∧ IterAt (w.alloc o) w.heap.size mb enc ve S S := by
  have hlt := h.lt
  obtain ⟨es, clock, hb, ho⟩ := h
  refine ⟨.mapIter (some mb) clock #[] clock, ?_, es, clock, clock, #[], by omega, ?_, ho, heap_alloc_at rfl, ho.clock, Nat.le_refl _, by rw [leftOf_none]; exact ho.ents⟩
  · unfold Instr.range
    simp only [Sem.run_bind, run_underlying hm, Result.andThen_ok, run_getObj_map hb, Sem.run_pure]
    rfl
  · rw [Below.heap_alloc _ _ _ hlt]; exact hb
theorem ents_mem {es : List MapEntry} {S : List (α × β)} (h : EntsOk enc ve es S) {e : MapEntry} (he : e ∈ es) : ∃ p, p ∈ S ∧ e.key = enc p.1 ∧ e.val = ve p.2 := by
  have h1 : (e.key, e.val) ∈ es.map (fun e => (e.key, e.val)) := List.mem_map.2 ⟨e, he, rfl⟩
  rw [h] at h1
  obtain ⟨p, hp, e1⟩ := List.mem_map.1 h1
  simp only [Prod.mk.injEq] at e1
  exact ⟨p, hp, e1.1.symm, e1.2.symm⟩
/-- One entry fewer, and the pair that it stands for. -/
theorem ents_drop {es : List MapEntry} {S : List (α × β)} (h : EntsOk enc ve es S) (hb : (es.map (·.born)).Nodup) {e : MapEntry} (he : e ∈ es) :
    ∃ p S', S.Perm (p :: S') ∧ e.key = enc p.1 ∧ e.val = ve p.2 ∧ EntsOk enc ve (es.filter fun x => x.born != e.born) S' := by
  induction es generalizing S with
  | nil => cases he
  | cons x es ih =>
    cases S with
    | nil => simp [EntsOk] at h
    | cons q S =>
      simp only [EntsOk, List.map_cons, List.cons.injEq, Prod.mk.injEq] at h
      simp only [List.map_cons, List.nodup_cons] at hb
      by_cases hx : e = x
      · subst hx
        refine ⟨q, S, List.Perm.refl _, h.1.1, h.1.2, ?_⟩
        have : (e :: es).filter (fun x => x.born != e.born) = es := by
          simp only [List.filter_cons, bne_self_eq_false, Bool.false_eq_true, if_false]
          rw [List.filter_eq_self]
          intro y hy
          simp only [bne_iff_ne]
          intro e1
          exact hb.1 (List.mem_map.2 ⟨y, hy, e1⟩)
        rw [this]; exact h.2
      · have he' : e ∈ es := by simpa [hx] using he
        obtain ⟨p, S', hp, h1, h2, h3⟩ := ih h.2 hb.2 he'
        refine ⟨p, q :: S', (List.Perm.cons q hp).trans (List.Perm.swap p q S'), h1, h2, ?_⟩
        have hne : (x.born != e.born) = true := by
          simp only [bne_iff_ne]
          intro e1
          exact hb.1 (e1 ▸ List.mem_map.2 ⟨e, he', rfl⟩)
        simp only [List.filter_cons, hne, if_true]
        simp only [EntsOk, List.map_cons, List.cons.injEq, Prod.mk.injEq]
        exact ⟨h.1, h3⟩
theorem born_nodup {es : List MapEntry} (h : es.Pairwise fun x y => x.born < y.born) : (es.map (·.born)).Nodup := by
  rw [List.Nodup, List.pairwise_map]
  exact h.imp fun h => Nat.ne_of_lt h
theorem leftOf_push (es : Array MapEntry) (seen : Array Nat) (b : Nat) : (leftOf es (seen.push b)).toList = (leftOf es seen).toList.filter fun x => x.born != b := by
  unfold leftOf
  simp only [Array.toList_filter, List.filter_filter]
  apply List.filter_congr
  intro x _
  simp only [Array.contains_push]
  cases seen.contains x.born <;> simp [bne]
/-- One step: nothing is left; or one of those that are left comes. -/
theorem IterAt.next {w : World} {ib mb : Nat} {S left : List (α × β)} (h : IterAt w ib mb enc ve S left) :
    (left = [] ∧ ∀ ty, (Instr.next (.pointer (some ⟨ib, 0, none⟩)) false ty).run P w = .ok (.tuple #[.bool false]) w) ∨
    ∃ p left' w', left.Perm (p :: left') ∧ (∀ ty, (Instr.next (.pointer (some ⟨ib, 0, none⟩)) false ty).run P w = .ok (.tuple #[.bool true, enc p.1, ve p.2]) w') ∧ IterAt w' ib mb enc ve S left' ∧
      Fr (fun k => k = ib) w w' ∧ w'.heap.size = w.heap.size ∧ (Instr.entry (.pointer (some ⟨ib, 0, none⟩))).run P w' = .ok (.tuple #[enc p.1, ve p.2]) w' := by
  have hlt := h.lt
  obtain ⟨es, clock, since, seen, hne, hb, ho, hi, h1, h2, h3⟩ := h
  have hn := born_nodup ho.born
  rcases Nat.eq_zero_or_pos (leftOf es seen).size with h0 | h0
  · left
    have hl : left = [] := by
      have := congrArg List.length h3
      simp only [List.length_map, Array.length_toList, h0] at this
      exact List.eq_nil_of_length_eq_zero this.symm
    refine ⟨hl, fun ty => ?_⟩
    rcases run_next_at (P := P) w ty ib mb since clock seen es clock hi hb h1 h2 with ⟨_, hr⟩ | ⟨e, he, _⟩
    · exact hr
    · have : (leftOf es seen).toList = [] := List.eq_nil_of_length_eq_zero (by simpa using h0)
      rw [this] at he; cases he
  · right
    rcases run_next_at (P := P) w 0 ib mb since clock seen es clock hi hb h1 h2 with ⟨h00, _⟩ | ⟨e, he, w1, hw1, hr⟩
    · omega
    · have hsub : ∀ x ∈ (leftOf es seen).toList, x ∈ es.toList := fun x hx => by simp [leftOf] at hx ⊢; exact hx.1
      have hn2 : ((leftOf es seen).toList.map (·.born)).Nodup := by
        have : (leftOf es seen).toList.Sublist es.toList := by unfold leftOf; rw [Array.toList_filter]; exact List.filter_sublist
        exact List.Sublist.nodup (this.map _) hn
      obtain ⟨p, S', hp, hk, hv, hS'⟩ := ents_drop h3 hn2 he
      have hheap : w1.heap = w.heap := by rcases hw1 with rfl | rfl <;> rfl
      refine ⟨p, S', Go.ChangeMaps.setBlock w1 ib (.mapIter (some mb) since (seen.push e.born) clock), hp, fun ty => ?_, ⟨es, clock, since, seen.push e.born, hne, ?_, ho, ?_, h1, h2, by rw [leftOf_push]; exact hS'⟩, ?_, ?_, ?_⟩
      · rw [← hk, ← hv]; exact hr
      · simp only [Go.ChangeMaps.setBlock, hheap, Array.getElem?_setIfInBounds]; rw [if_neg hne]; exact hb
      · simp only [Go.ChangeMaps.setBlock, hheap]; simp [hlt]
      · refine ⟨?_, ?_, ?_, by simp [Go.ChangeMaps.setBlock, hheap], fun k hk hkn => ?_⟩
        · rcases hw1 with rfl | rfl <;> rfl
        · rcases hw1 with rfl | rfl <;> rfl
        · rcases hw1 with rfl | rfl <;> rfl
        · simp only [Go.ChangeMaps.setBlock, hheap, Array.getElem?_setIfInBounds]; rw [if_neg (fun e => hkn e.symm)]
      · simp [Go.ChangeMaps.setBlock, hheap]
      · rw [← hk, ← hv]
        refine run_entry_at _ ib mb since seen es clock e ?_ ?_ (hsub e he) hn
        · simp only [Go.ChangeMaps.setBlock, hheap]; simp [hlt]
        · simp only [Go.ChangeMaps.setBlock, hheap, Array.getElem?_setIfInBounds]; rw [if_neg hne]; exact hb
end
end Go.Proofs.YtnfkjodiielidaaGreatDoor

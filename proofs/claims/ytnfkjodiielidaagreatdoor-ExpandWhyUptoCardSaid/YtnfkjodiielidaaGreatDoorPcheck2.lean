/- Layer 14, as plain data: more tuples, deeper; who is named; how much is asked of at most. -/
import Derived.Test.YtnfkjodiielidaaGreatDoorPcheck
namespace Go.Proofs.YtnfkjodiielidaaGreatDoor
set_option linter.unusedVariables false
set_option linter.unusedSimpArgs false
open Go.RowKit

/-- No node takes somebody away. -/
def noBut (e : LExpr) : Bool := e.all fun x => !decide (x.op = sBut)
theorem noBut_eq (e : LExpr) : noBut e = (!decide (e.op = sBut) && e.parts.all noBut) := by unfold noBut; rw [LExpr.all_eq]
def noButL (l : List LKind) : Bool := l.all fun k => k.rules.all fun r => noBut r.expr
theorem findL_mem {l : List LKind} {k r : ByteArray} {e : LExpr} (h : findL l k r = some e) : ∃ kd ru, kd ∈ l ∧ ru ∈ kd.rules ∧ ru.expr = e ∧ l.find? (fun x => decide (x.name = k)) = some kd := by
  unfold findL hasL at h
  obtain ⟨kd, h1, h2⟩ := Option.bind_eq_some_iff.1 h
  obtain ⟨ru, h3, rfl⟩ := Option.map_eq_some_iff.1 h2
  exact ⟨kd, ru, List.mem_of_find?_eq_some h1, List.mem_of_find?_eq_some h3, rfl, h1⟩
theorem findL_noBut {l : List LKind} (hf : noButL l = true) {k r : ByteArray} {e : LExpr} (h : findL l k r = some e) : noBut e = true := by
  obtain ⟨kd, ru, m1, m2, rfl, _⟩ := findL_mem h
  unfold noButL at hf
  simp only [List.all_eq_true] at hf
  exact hf kd m1 ru m2
theorem mem_usersOf {S : List LTuple} {k i r : ByteArray} {u : LUser} : u ∈ usersOf S k i r ↔ ∃ t, t ∈ S ∧ t.kind = k ∧ t.id = i ∧ t.rel = r ∧ t.user = u := by
  unfold usersOf
  rw [List.mem_map]
  constructor
  · rintro ⟨t, ht, rfl⟩
    rw [List.mem_filter, mem_canon] at ht
    have := ht.2
    unfold ofB at this
    simp at this
    exact ⟨t, ht.1, this.1.1, this.1.2, this.2, rfl⟩
  · rintro ⟨t, ht, rfl, rfl, rfl, rfl⟩
    exact ⟨t, by rw [List.mem_filter, mem_canon]; exact ⟨ht, by simp [ofB]⟩, rfl⟩
theorem usersOf_congr {S S' : List LTuple} (h : ∀ t, t ∈ S ↔ t ∈ S') (k i r : ByteArray) : usersOf S k i r = usersOf S' k i r := by
  unfold usersOf
  rw [canon_ext lin_tLess h]

section
variable {S S' : List LTuple} {u : LUser} {V V' : LAt → LVer}
theorem asks1_sub (hS : ∀ t, t ∈ S → t ∈ S') (p : LAt) (e : LExpr) : ∀ q, q ∈ asks1 S p e → q ∈ asks1 S' p e := by
  have hu : ∀ k i r (x : LUser), x ∈ usersOf S k i r → x ∈ usersOf S' k i r := by
    intro k i r x hx
    rw [mem_usersOf] at hx ⊢
    obtain ⟨t, h1, h2⟩ := hx
    exact ⟨t, hS t h1, h2⟩
  intro q hq
  unfold asks1 at hq ⊢
  split at hq
  · rename_i h1
    simp only [h1, if_true]
    obtain ⟨x, hx, rfl⟩ := List.mem_map.1 hq
    rw [List.mem_filter] at hx
    exact List.mem_map.2 ⟨x, List.mem_filter.2 ⟨hu _ _ _ _ hx.1, hx.2⟩, rfl⟩
  · rename_i h1
    split at hq
    · rename_i h2
      simp only [h1, if_false, h2, if_true]; exact hq
    · rename_i h2
      split at hq
      · rename_i h3
        simp only [h1, if_false, h2, h3, if_true]
        obtain ⟨x, hx, rfl⟩ := List.mem_map.1 hq
        rw [List.mem_filter] at hx
        exact List.mem_map.2 ⟨x, List.mem_filter.2 ⟨hu _ _ _ _ hx.1, hx.2⟩, rfl⟩
      · cases hq
/-- Without a but: who has it, has it still where more is told. -/
theorem evalE_more (hS : ∀ t, t ∈ S → t ∈ S') (hV : ∀ q, (V q).has = true → (V' q).has = true) (p : LAt) (e : LExpr) : noBut e = true → (evalE V S u p e).has = true → (evalE V' S' u p e).has = true := by
  induction e using LExpr.ind with
  | h e ih =>
  intro hb
  rw [noBut_eq] at hb
  simp only [Bool.and_eq_true, Bool.not_eq_true', decide_eq_false_iff_not, List.all_eq_true] at hb
  rw [evalE_eq, evalE_eq]
  have h1 : ∀ x, x ∈ e.parts → (evalE V S u p x).has = true → (evalE V' S' u p x).has = true := fun x hx => ih x hx (hb.2 x hx)
  have hs := asks1_sub hS p e
  have ha : ((asks1 S p e).any fun q => (V q).has) = true → ((asks1 S' p e).any fun q => (V' q).has) = true := by
    simp only [List.any_eq_true]
    rintro ⟨q, hq, h⟩
    exact ⟨q, hs q hq, hV q h⟩
  unfold node1
  by_cases o1 : e.op = sThis
  · simp only [if_pos o1, Bool.or_eq_true, decide_eq_true_eq]
    rintro (h | h)
    · exact .inl (ha h)
    · exact .inr (hS _ h)
  · by_cases o2 : e.op = sRel
    · simp only [if_neg o1, if_pos o2]; exact hV _
    · by_cases o3 : e.op = sFrom
      · simp only [if_neg o1, if_neg o2, if_pos o3, anyV, List.any_map, Function.comp_def]; exact ha
      · by_cases o4 : e.op = sAnd
        · simp only [if_neg o1, if_neg o2, if_neg o3, if_pos o4, List.all_map, List.all_eq_true, Function.comp_def]
          exact fun h x hx => h1 x hx (h x hx)
        · simp only [if_neg o1, if_neg o2, if_neg o3, if_neg o4, if_neg hb.1, anyV, List.any_map, List.any_eq_true, Function.comp_def]
          rintro ⟨x, hx, h⟩
          exact ⟨x, hx, h1 x hx h⟩
theorem verd_more {l : List LKind} (hn : noButL l = true) (hS : ∀ t, t ∈ S → t ∈ S') (d : Nat) : ∀ p, (verd l S u d p).has = true → (verd l S' u d p).has = true := by
  induction d with
  | zero => intro p h; simp [verd] at h
  | succ d ih =>
    intro p h
    simp only [verd] at h ⊢
    cases hh : findL l p.kind p.rel with
    | none => simp [hh] at h
    | some e =>
      simp only [hh] at h ⊢
      exact evalE_more hS ih p e (findL_noBut hn hh) h
theorem verd_down {l : List LKind} (hn : noButL l = true) (d : Nat) : ∀ p, (verd l S u d p).has = true → (verd l S u (d + 1) p).has = true := by
  induction d with
  | zero => intro p h; simp [verd] at h
  | succ d ih =>
    intro p h
    rw [show verd l S u (d + 1) p = match findL l p.kind p.rel with | none => ⟨false, false⟩ | some e => evalE (verd l S u d) S u p e from rfl] at h
    rw [show verd l S u (d + 1 + 1) p = match findL l p.kind p.rel with | none => ⟨false, false⟩ | some e => evalE (verd l S u (d + 1)) S u p e from rfl]
    cases hh : findL l p.kind p.rel with
    | none => simp [hh] at h
    | some e =>
      simp only [hh] at h ⊢
      exact evalE_more (fun _ h => h) ih p e (findL_noBut hn hh) h
/-- Who has something is named by a tuple. -/
theorem evalE_named (p : LAt) (e : LExpr) : formed e = true → (evalE V S u p e).has = true → (∃ q, (V q).has = true) ∨ ∃ t, t ∈ S ∧ t.user = u := by
  induction e using LExpr.ind with
  | h e ih =>
  intro hf
  rw [evalE_eq]
  have h1 : ∀ x, x ∈ e.parts → (evalE V S u p x).has = true → (∃ q, (V q).has = true) ∨ ∃ t, t ∈ S ∧ t.user = u := fun x hx => ih x hx (formed_part hf hx)
  unfold node1
  by_cases o1 : e.op = sThis
  · simp only [if_pos o1, Bool.or_eq_true, decide_eq_true_eq, List.any_eq_true]
    rintro (⟨q, _, h⟩ | h)
    · exact .inl ⟨q, h⟩
    · exact .inr ⟨_, h, rfl⟩
  · by_cases o2 : e.op = sRel
    · simp only [if_neg o1, if_pos o2]; exact fun h => .inl ⟨_, h⟩
    · by_cases o3 : e.op = sFrom
      · simp only [if_neg o1, if_neg o2, if_pos o3, anyV, List.any_map, List.any_eq_true, Function.comp_def]
        rintro ⟨q, _, h⟩
        exact .inl ⟨q, h⟩
      · have hp : ∀ x, x ∈ e.parts.map (evalE V S u p) → x.has = true → (∃ q, (V q).has = true) ∨ ∃ t, t ∈ S ∧ t.user = u := by
          intro x hx h
          obtain ⟨y, hy, rfl⟩ := List.mem_map.1 hx
          exact h1 y hy h
        have hlen : (e.op = sAnd ∨ e.op = sBut) → 0 < (e.parts.map (evalE V S u p)).length := by
          intro ho
          rw [formed_eq] at hf
          simp only [Bool.and_eq_true] at hf
          have hF := hf.1
          unfold formB at hF
          rcases ho with ho | ho
          · rw [if_neg o1, if_neg o2, if_neg o3, if_pos (Or.inr ho)] at hF
            simp at hF
            simp; omega
          · have a1 : ¬ (sBut = sOr) := by decide +kernel
            have a2 : ¬ (sBut = sAnd) := by decide +kernel
            rw [if_neg o1, if_neg o2, if_neg o3, if_neg (by rw [ho]; simp [a1, a2]), if_pos ho] at hF
            simp at hF
            simp; omega
        generalize e.parts.map (evalE V S u p) = L at *
        by_cases o4 : e.op = sAnd
        · simp only [if_neg o1, if_neg o2, if_neg o3, if_pos o4, List.all_eq_true]
          intro h
          cases L with
          | nil => exact absurd (hlen (.inl o4)) (by simp)
          | cons x r => exact hp x (by simp) (h x (by simp))
        · by_cases o5 : e.op = sBut
          · simp only [if_neg o1, if_neg o2, if_neg o3, if_neg o4, if_pos o5, Bool.and_eq_true]
            rintro ⟨h, _⟩
            cases L with
            | nil => exact absurd (hlen (.inr o5)) (by simp)
            | cons x r => exact hp x (by simp) h
          · simp only [if_neg o1, if_neg o2, if_neg o3, if_neg o4, if_neg o5, anyV, List.any_eq_true]
            rintro ⟨x, hx, h⟩
            exact hp x hx h
theorem verd_named {l : List LKind} (hf : formedL l = true) (d : Nat) : ∀ p, (verd l S u d p).has = true → ∃ t, t ∈ S ∧ t.user = u := by
  induction d with
  | zero => intro p h; simp [verd] at h
  | succ d ih =>
    intro p h
    simp only [verd] at h
    cases hh : findL l p.kind p.rel with
    | none => simp [hh] at h
    | some e =>
      simp only [hh] at h
      rcases evalE_named p e (findL_formed hf hh) h with ⟨q, hq⟩ | h1
      · exact ih q hq
      · exact h1
end

/-! ### How much is asked of -/
namespace LExpr
def natSize : LExpr → Nat
  | mk _ _ _ p => (p.attach.map fun ⟨x, _⟩ => x.natSize).sum + 1
theorem natSize_eq (e : LExpr) : e.natSize = (e.parts.map natSize).sum + 1 := by
  cases e with
  | mk o n f p => simp [natSize, parts]
def names : LExpr → List ByteArray
  | mk _ n _ p => n :: (p.attach.map fun ⟨x, _⟩ => x.names).flatten
theorem names_eq (e : LExpr) : e.names = e.name :: (e.parts.map names).flatten := by
  cases e with
  | mk o n f p => simp [names, parts, name]
theorem names_length (e : LExpr) : e.names.length = e.natSize := by
  induction e using LExpr.ind with
  | h e ih =>
  rw [names_eq, natSize_eq, List.length_cons, List.length_flatten, List.map_map]
  congr 2
  exact List.map_congr_left fun x hx => ih x hx
end LExpr
def namesOf (l : List LKind) (k : ByteArray) : List ByteArray := match l.find? (fun x => decide (x.name = k)) with
  | none => []
  | some kd => kd.rules.flatMap fun r => r.expr.names
theorem namesOf_length {l : List LKind} (hl : ∀ k, k ∈ l → k.rules.length ≤ 6 ∧ ∀ r, r ∈ k.rules → r.expr.natSize ≤ 12) (k : ByteArray) : (namesOf l k).length ≤ 72 := by
  unfold namesOf
  cases h : l.find? (fun x => decide (x.name = k)) with
  | none => simp
  | some kd =>
    obtain ⟨h1, h2⟩ := hl kd (List.mem_of_find?_eq_some h)
    have : ∀ rs : List LRule, (∀ r, r ∈ rs → r.expr.natSize ≤ 12) → (rs.flatMap fun r => r.expr.names).length ≤ rs.length * 12 := by
      intro rs
      induction rs with
      | nil => simp
      | cons r rs ih =>
        intro hr
        have a := ih fun x hx => hr x (by simp [hx])
        have b := hr r (by simp)
        simp only [List.flatMap_cons, List.length_append, List.length_cons, LExpr.names_length]
        omega
    have := this kd.rules h2
    simp only
    omega
theorem asks_names (S : List LTuple) (p : LAt) (e : LExpr) : ∀ q, q ∈ asksE S p e → (∃ t, t ∈ S ∧ q = ⟨t.user.kind, t.user.id, t.user.rel⟩) ∨ (∃ n, n ∈ e.names ∧ q = ⟨p.kind, p.id, n⟩) ∨ ∃ t n, t ∈ S ∧ t.kind = p.kind ∧ n ∈ e.names ∧ q = ⟨t.user.kind, t.user.id, n⟩ := by
  induction e using LExpr.ind with
  | h e ih =>
  intro q hq
  rw [asksE_eq] at hq
  rw [LExpr.names_eq]
  rcases List.mem_append.1 hq with hq | hq
  · obtain ⟨L, hL, hqL⟩ := List.mem_flatten.1 hq
    obtain ⟨x, hx, rfl⟩ := List.mem_map.1 hL
    have hsub : ∀ n, n ∈ x.names → n ∈ e.name :: (e.parts.map LExpr.names).flatten := fun n hn => List.mem_cons_of_mem _ (List.mem_flatten.2 ⟨_, List.mem_map.2 ⟨x, hx, rfl⟩, hn⟩)
    rcases ih x hx q hqL with h | ⟨n, hn, h⟩ | ⟨t, n, h1, h2, hn, h⟩
    · exact .inl h
    · exact .inr (.inl ⟨n, hsub n hn, h⟩)
    · exact .inr (.inr ⟨t, n, h1, h2, hsub n hn, h⟩)
  · unfold asks1 at hq
    split at hq
    · obtain ⟨x, hx, rfl⟩ := List.mem_map.1 hq
      obtain ⟨t, h1, _, _, _, rfl⟩ := mem_usersOf.1 (List.mem_filter.1 hx).1
      exact .inl ⟨t, h1, rfl⟩
    · split at hq
      · exact .inr (.inl ⟨e.name, by simp, by simpa using hq⟩)
      · split at hq
        · obtain ⟨x, hx, rfl⟩ := List.mem_map.1 hq
          obtain ⟨t, h1, h2, _, _, rfl⟩ := mem_usersOf.1 (List.mem_filter.1 hx).1
          exact .inr (.inr ⟨t, e.name, h1, h2, by simp, rfl⟩)
        · cases hq
/-- All that may be asked of from one place on. -/
def objsU (S : List LTuple) (p : LAt) : List (ByteArray × ByteArray) := (p.kind, p.id) :: S.map fun t => (t.user.kind, t.user.id)
def levU (l : List LKind) (S : List LTuple) (p : LAt) : List LAt :=
  p :: ((S.map fun t => ⟨t.user.kind, t.user.id, t.user.rel⟩) ++ (S.flatMap fun t => (namesOf l t.kind).map fun n => ⟨t.user.kind, t.user.id, n⟩) ++ (objsU S p).flatMap fun o => (namesOf l o.1).map fun n => ⟨o.1, o.2, n⟩)
theorem levU_length {l : List LKind} {S : List LTuple} (hl : ∀ k, k ∈ l → k.rules.length ≤ 6 ∧ ∀ r, r ∈ k.rules → r.expr.natSize ≤ 12) (hS : S.length ≤ 31) (p : LAt) : (levU l S p).length ≤ 4568 := by
  have hn := namesOf_length hl
  have h1 : (S.flatMap fun t => (namesOf l t.kind).map fun n => (⟨t.user.kind, t.user.id, n⟩ : LAt)).length ≤ S.length * 72 := by
    clear hS
    induction S with
    | nil => simp
    | cons t S ih => have := hn t.kind; simp only [List.flatMap_cons, List.length_append, List.length_map, List.length_cons]; omega
  have h2 : ∀ O : List (ByteArray × ByteArray), (O.flatMap fun o => (namesOf l o.1).map fun n => (⟨o.1, o.2, n⟩ : LAt)).length ≤ O.length * 72 := by
    intro O
    induction O with
    | nil => simp
    | cons o O ih => have := hn o.1; simp only [List.flatMap_cons, List.length_append, List.length_map, List.length_cons]; omega
  have h3 := h2 (objsU S p)
  have h4 : (objsU S p).length = S.length + 1 := by simp [objsU]
  unfold levU
  simp only [List.length_cons, List.length_append, List.length_map]
  omega
theorem levU_obj {l : List LKind} {S : List LTuple} {p q : LAt} (h : q ∈ levU l S p) : (q.kind, q.id) ∈ objsU S p := by
  unfold levU at h
  rcases List.mem_cons.1 h with rfl | h
  · simp [objsU]
  · rcases List.mem_append.1 h with h | h
    · rcases List.mem_append.1 h with h | h
      · obtain ⟨t, ht, rfl⟩ := List.mem_map.1 h
        exact List.mem_cons_of_mem _ (List.mem_map.2 ⟨t, ht, rfl⟩)
      · obtain ⟨t, ht, h⟩ := List.mem_flatMap.1 h
        obtain ⟨n, _, rfl⟩ := List.mem_map.1 h
        exact List.mem_cons_of_mem _ (List.mem_map.2 ⟨t, ht, rfl⟩)
    · obtain ⟨o, ho, h⟩ := List.mem_flatMap.1 h
      obtain ⟨n, _, rfl⟩ := List.mem_map.1 h
      exact ho
theorem namesOf_mem {l : List LKind} {k r : ByteArray} {e : LExpr} (h : findL l k r = some e) {n : ByteArray} (hn : n ∈ e.names) : n ∈ namesOf l k := by
  obtain ⟨kd, ru, _, m2, rfl, h1⟩ := findL_mem h
  unfold namesOf
  rw [h1]
  exact List.mem_flatMap.2 ⟨ru, m2, hn⟩
theorem levU_asks {l : List LKind} {S : List LTuple} {p q x : LAt} (h : q ∈ levU l S p) (hx : x ∈ asksP l S q) : x ∈ levU l S p := by
  unfold asksP at hx
  cases hh : findL l q.kind q.rel with
  | none => simp [hh] at hx
  | some e =>
    simp only [hh] at hx
    have ho := levU_obj h
    unfold levU
    refine List.mem_cons_of_mem _ ?_
    rcases asks_names S q e x hx with ⟨t, ht, rfl⟩ | ⟨n, hn, rfl⟩ | ⟨t, n, ht, hk, hn, rfl⟩
    · exact List.mem_append_left _ (List.mem_append_left _ (List.mem_map.2 ⟨t, ht, rfl⟩))
    · exact List.mem_append_right _ (List.mem_flatMap.2 ⟨_, ho, List.mem_map.2 ⟨n, namesOf_mem hh hn, rfl⟩⟩)
    · exact List.mem_append_left _ (List.mem_append_right _ (List.mem_flatMap.2 ⟨t, ht, List.mem_map.2 ⟨n, by rw [hk]; exact namesOf_mem hh hn, rfl⟩⟩))
theorem levU_lev {l : List LKind} {S : List LTuple} {p : LAt} (j : Nat) : ∀ q, q ∈ lev l S j p → q ∈ levU l S p := by
  induction j with
  | zero => intro q hq; obtain rfl : q = p := by simpa [lev] using hq
            simp [levU]
  | succ j ih =>
    intro q hq
    obtain ⟨x, hx, hq⟩ := (lev_succ j p q).1 hq
    exact levU_asks (ih x hx) hq
def allU (l : List LKind) (S : List LTuple) (p : LAt) (d : Nat) : List (Nat × LAt) := (List.range d).flatMap fun e => (levU l S p).map fun q => (e + 1, q)
theorem allU_reach {l : List LKind} {S : List LTuple} {p : LAt} {d : Nat} {r : Nat × LAt} (h : Reach l S r d p) : r ∈ allU l S p d := by
  obtain ⟨j, h1, h2, h3⟩ := (reach_lev r d p).1 h
  refine List.mem_flatMap.2 ⟨d - j - 1, List.mem_range.2 (by omega), List.mem_map.2 ⟨r.2, levU_lev j _ h3, ?_⟩⟩
  obtain ⟨a, b⟩ := r
  simp at h2 ⊢
  omega
theorem allU_length {l : List LKind} {S : List LTuple} (hl : ∀ k, k ∈ l → k.rules.length ≤ 6 ∧ ∀ r, r ∈ k.rules → r.expr.natSize ≤ 12) (hS : S.length ≤ 31) (p : LAt) {d : Nat} (hd : d ≤ 17) : (allU l S p d).length ≤ 100000 := by
  have h1 := levU_length hl hS p
  have h2 : ∀ R : List Nat, (R.flatMap fun e => (levU l S p).map fun q => (e + 1, q)).length = R.length * (levU l S p).length := by
    intro R
    induction R with
    | nil => simp
    | cons e R ih => simp only [List.flatMap_cons, List.length_append, List.length_map, List.length_cons, ih]; rw [Nat.add_mul, Nat.one_mul, Nat.add_comm]
  unfold allU
  rw [h2, List.length_range]
  calc d * (levU l S p).length ≤ 17 * 4568 := Nat.mul_le_mul hd h1
    _ ≤ 100000 := by omega
end Go.Proofs.YtnfkjodiielidaaGreatDoor

/- append(own, what came in ...). -/
import Derived.Test.YtnfkjodiielidaaGreatWrow
import Derived.Test.YtnfkjodiielidaaGreatOpen
import Derived.Laws.AppendOwnNone
namespace Go.Proofs.YtnfkjodiielidaaGreat
set_option linter.unusedVariables false
set_option linter.unusedSimpArgs false
open Go.RowKit

/-- The rows of a slice as cells, one behind the other. -/
theorem rows_cells {α : Type} {dd : α → List D} {enc : α → List Value} {k : Nat} (henc : ∀ x, (enc x).length = k) (hcell : ∀ (x : α) (A : Nat → Prop) (w : World) j u, j < k → RepD A w ((dd x).getD j (.bool false)) u → (enc x)[j]? = some u)
    {A : Nat → Prop} {w : World} {xs : List α} {v : Value} (h : RepD A w (.slice k (xs.map dd)) v) (hs : Slc v) :
    (v = .slice none 0 0 ∧ xs = []) ∨ ∃ ad c, v = .slice (some ad) xs.length c ∧ ∀ j u, (xs.flatMap enc)[j]? = some u → w.cell? (ad.add j) = some u := by
  obtain ⟨a, c, us, hv, hc, hl, hk⟩ := h.rows
  rcases Nat.eq_zero_or_pos xs.length with h0 | h0
  · have hx : xs = [] := List.eq_nil_of_length_eq_zero h0
    subst hx
    rcases hs with rfl | ⟨ad, n, c', rfl⟩
    · exact .inl ⟨rfl, rfl⟩
    · injection hv with h1 h2 h3
      subst h2
      exact .inr ⟨ad, c', rfl, fun j u hj => by simp at hj⟩
  · obtain ⟨b, off, ha, _, _⟩ := hk 0 h0
    subst ha
    refine .inr ⟨⟨b, off, none⟩, c, hv, fun t u hj => ?_⟩
    have hadd : (⟨b, off, none⟩ : Addr).add t = ⟨b, off + t, none⟩ := by unfold Addr.add; simp
    rw [hadd]
    have hlt : t < xs.length * k := by rw [← length_flat henc]; exact (List.getElem?_eq_some_iff.1 hj).1
    have hk0 : 0 < k := by
      rcases Nat.eq_zero_or_pos k with h1 | h1
      · rw [h1] at hlt; omega
      · exact h1
    have h1 : t / k < xs.length := Nat.div_lt_of_lt_mul (by rwa [Nat.mul_comm])
    have h2 : t % k < k := Nat.mod_lt _ hk0
    obtain ⟨b', off', ha', _, hcs⟩ := hk (t / k) h1
    cases ha'
    obtain ⟨c1, r1⟩ := hcs (t % k) h2
    have e1 := hcell _ _ _ _ _ h2 r1
    have hdm : off + t / k * k + t % k = off + t := by rw [Nat.add_assoc, Nat.mul_comm, Nat.div_add_mod]
    rw [hdm] at c1
    rw [c1]
    have e2 := getD_flatMap enc k henc xs (t / k) (t % k) h1 h2 undef
    rw [show t / k * k + t % k = t by rw [Nat.mul_comm]; exact Nat.div_add_mod t k] at e2
    rw [List.getD_eq_getElem?_getD, hj] at e2
    simp only [Option.getD_some] at e2
    rw [List.getD_eq_getElem?_getD] at e2
    rw [e2, e1]
    rfl

section
variable {P : Program} {ops : Array Oper} {rest : List Oper} {o : Oper} {a : Act} {Q : Exit → Act → World → Prop}
theorem wpList_app_in {α : Type} {dd : α → List D} (base : Nat) (hgd : o.guard = none) (s x : Operand) (t e : TypeId) (z : Value) (size bytes : Nat)
    (ho : o.op = .call { callee := .builtin .append, args := #[s, x], argTypes := #[t, t] }) (ht : P.underlying t = some (.slice e))
    (hinfo : (P.info? e).map (fun i => (i.zero, i.size, i.bytes)) = some (some z, size, bytes)) (hzs : z.cells.size = size) (hsz : 0 < size) (hby : 0 < bytes)
    (enc : α → List Value) (henc : ∀ x, (enc x).length = size) (h1 : ∀ x, ∀ v ∈ enc x, v.oneCell' = true) (hcell : ∀ (x : α) (A : Nat → Prop) (w : World) j u, j < size → RepD A w ((dd x).getD j (.bool false)) u → (enc x)[j]? = some u)
    {W : World} (v vx : Value) (xs ys : List α) (hs : a.eval s = v) (hx : a.eval x = vx) {A : Nat → Prop} (hr : RepD A W (.slice size (ys.map dd)) vx) (hslc : Slc vx)
    (HO : OwnL W base e size enc v xs) (hbase : base ≤ W.heap.size) (hl : (xs.length + ys.length) * bytes ≤ 140737488355328)
    (h : ∀ v1 w1, OwnL w1 base e size enc v1 (xs ++ ys) → Below base W w1 → wpList P ops Q rest (a.put o.dst v1) w1) :
    wpList P ops Q (o :: rest) a W := by
  obtain ⟨i0, hi, hzz⟩ := Option.map_eq_some_iff.1 hinfo
  simp only [Prod.mk.injEq] at hzz
  obtain ⟨hz0, hz1, hz2⟩ := hzz
  have hlen : xs.length + ys.length ≤ 140737488355328 := Nat.le_trans (Nat.le_mul_of_pos_right _ hby) hl
  rcases rows_cells henc hcell hr hslc with ⟨rfl, rfl⟩ | ⟨ad, c, rfl, hc⟩
  · refine wpList_append_own_none hgd s x t ho base e i0 size ht hi v xs.length (xs.flatMap enc) hs HO hx ?_
    exact h v W (by rw [List.append_nil]; exact HO) (Below.refl _ _)
  · refine wpList_append_own W hgd s x t ho base e i0 z size bytes ht hi hz0 hz1 hz2 hzs hsz v xs.length (xs.flatMap enc) hs HO ad ys.length c (ys.flatMap enc) hx (length_flat henc ys) hc ?_ (by simp only [maxLen]; omega) hl hbase ?_
    · intro u hu
      obtain ⟨y, _, hy⟩ := List.mem_flatMap.1 hu
      exact h1 y u hy
    · intro v1 w1 hown hg _
      refine h v1 w1 (by unfold OwnL; rw [List.length_append, List.flatMap_append]; exact hown) ?_
      exact (Below.refl base W).grown hg hbase (fun k hk => (OwnL.block HO k hk).1)
end
theorem tuple_cell (x : LTuple) (A : Nat → Prop) (w : World) (j : Nat) (u : Value) (hj : j < 6) (h : RepD A w (x.d.getD j (.bool false)) u) : x.cells[j]? = some u := by
  match j, hj with
  | 0, _ => rw [RepD.str_cell h rfl]; rfl
  | 1, _ => rw [RepD.str_cell h rfl]; rfl
  | 2, _ => rw [RepD.str_cell h rfl]; rfl
  | 3, _ => rw [RepD.str_cell h rfl]; rfl
  | 4, _ => rw [RepD.str_cell h rfl]; rfl
  | 5, _ => rw [RepD.str_cell h rfl]; rfl
theorem own_made {α : Type} {w : World} {N : Nat} (hN : N = w.heap.size) (e : TypeId) (sz : Nat) (enc : α → List Value) : OwnL (w.alloc (.cells #[] e)) N e sz enc (.slice (some ⟨N, 0, none⟩) 0 0) [] := by
  subst hN
  exact OwnL.shut rfl (by simp) (Nat.le_refl _) (heap_alloc_at rfl) (Nat.le_refl _) (by simp) (by simp) (by simp)
end Go.Proofs.YtnfkjodiielidaaGreat

/- A copy of a slice of the call's own. -/
import Derived.Test.YtnfkjodiielidaaGreatDoorWwhich
import Derived.Shelf.SlicesE.Clone
namespace Go.Proofs.YtnfkjodiielidaaGreatDoor
set_option linter.unusedVariables false
set_option linter.unusedSimpArgs false
open Go.RowKit

theorem own_clone {P : Program} {ρ : Go.Shelf.Ren} (L : SlLaysE0.n41 P ρ) {α : Type} {enc : α → List Value} {k bytes : Nat} {z : Value} (hi : (P.info? (ρ.t 23)).map (fun i => (i.zero, i.size, i.bytes)) = some (some z, k, bytes)) (hz : z.cells.size = k) (hk : 0 < k)
    (z23 : ∀ w, (Go.sizeOf (ρ.t 23)).run P w = .ok k w) (henc : ∀ x, (enc x).length = k) (h1 : ∀ x, ∀ v ∈ enc x, v.oneCell' = true) {w : World} {base : Nat} {v : Value} {xs : List α} (h : OwnL w base (ρ.t 23) k enc v xs) (hl : xs.length * bytes ≤ 140737488355328) (hm : xs.length ≤ maxLen) :
    Calls P (ρ.f 41) #[v] w fun e w' => ∃ v', e = .returned v' ∧ OwnL w' w.heap.size (ρ.t 23) k enc v' xs ∧ Below w.heap.size w w' := by
  obtain ⟨i0, hi0, hzz⟩ := Option.map_eq_some_iff.1 hi
  simp only [Prod.mk.injEq] at hzz
  obtain ⟨hz0, hz1, hz2⟩ := hzz
  have h2 := h
  rcases h.2 with ⟨rfl, h0⟩ | ⟨g, cap, cur, rfl, _⟩
  · have hx : xs = [] := List.eq_nil_of_length_eq_zero h0
    subst hx
    exact (AnyE.slices_Clone_nil L 0 0 w).mono fun e w' ⟨he, hw⟩ => ⟨_, he, OwnL.nil _ _ _ _ _, by subst hw; exact Below.refl _ _⟩
  · have hlen : (xs.flatMap enc).length = xs.length * k := length_flat henc xs
    refine (AnyE.slices_Clone L i0 z k bytes hi0 hz0 hz1 hz2 hz hk z23 g 0 xs.length cap (xs.flatMap enc) w hlen hm hl ?_ ?_).mono fun e w' ⟨v', he, ho, _, hb⟩ => ⟨v', he, ho, hb⟩
    · intro j u hj
      rw [Nat.zero_add, World.ownsRow.cellAt h j (by rw [← hlen]; exact (List.getElem?_eq_some_iff.1 hj).1), hj]
    · intro u hu
      obtain ⟨x, _, hx⟩ := List.mem_flatMap.1 hu
      exact h1 x u hx
def cloneU_ren : Go.Shelf.Ren := ⟨fun | 41 => 132 | n => n, fun | 22 => 29 | 23 => 25 | 4 => 4 | n => n, fun | n => n⟩
theorem cloneU : Go.Proofs.SlLaysE0.n41 Tryz.prog cloneU_ren := {
  mixed := by kernel_rfl
  f41 := ⟨Tryz.f132.name, by decide, Tryz.func132.trans (congrArg some (by kernel_rfl))⟩
  t4 := Tryz.underlying4
  a4 := Tryz.isAgg4
  z4 := Tryz.sizeOf4
  v4 := Tryz.zeroValue4
  t22 := Tryz.underlying29
  a22 := Tryz.isAgg29
  z22 := Tryz.sizeOf29
  v22 := Tryz.zeroValue29 }
theorem clone_users {w : World} {base : Nat} {v : Value} {xs : List LUser} (h : OwnL w base 25 3 LUser.cells v xs) (hl : xs.length ≤ 1000000000000) :
    Calls Tryz.prog 132 #[v] w fun e w' => ∃ v', e = .returned v' ∧ OwnL w' w.heap.size 25 3 LUser.cells v' xs ∧ Below w.heap.size w w' :=
  own_clone cloneU (bytes := 48) (z := .agg #[.string ⟨#[]⟩, .string ⟨#[]⟩, .string ⟨#[]⟩]) info_user rfl (by omega) Tryz.sizeOf25 LUser.len LUser.one h (by omega) (by simp only [maxLen]; omega)
end Go.Proofs.YtnfkjodiielidaaGreatDoor

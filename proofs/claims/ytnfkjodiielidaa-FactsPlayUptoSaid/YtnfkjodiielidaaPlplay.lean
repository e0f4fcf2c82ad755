/- The law FactsPlay returns true, for whatever input of bulk at most 1048576, and leaves its arguments as they were. -/
import Derived.Test.YtnfkjodiielidaaWlplay
import Derived.Test.YtnfkjodiielidaaPlaw
import Derived.Test.YtnfkjodiielidaaRows
import Derived.ChangeSame
namespace Go.Proofs.Ytnfkjodiielidaa
set_option linter.unusedVariables false
set_option linter.unusedSimpArgs false
open Go.ChangeShapes Go.WideShapes Go.ChangeAt Go.RowKit

set_option maxRecDepth 100000 in
theorem cells_act : Try.prog.cellsOf 34 = 7 := by kernel_rfl
set_option maxRecDepth 100000 in
theorem cells_int : Try.prog.cellsOf 3 = 1 := by kernel_rfl
theorem open_acts {H : Type} {enc : TypeId × Value → H} {w : World} {base : Nat} {spare : Nat → Bool} {held : Bool} {v : Value} {d : DataW H} {p : List MemPlace} (hv : v.cells = #[v]) (h : DataW.Trod enc Try.prog w base spare held 23 v d p) :
    ∃ xs : List LAct, Slc v ∧ (xs.length ≤ 140737488355328 → RepD (fun _ => True) w (.slice 7 (xs.map LAct.d)) v) ∧ ((d = .nil ∧ xs = []) ∨ ∃ el sp, d = .slice el sp ∧ el.length = xs.length) := by
  obtain ⟨fuel, hf⟩ := h
  obtain ⟨v', xs, e, hs, hr, hd⟩ := open_rows (dd := LAct.d) (by omega) Try.underlying23 cells_act (fun n cs x hx => by
    obtain ⟨y0, y1, m, _, hl, h0, h1⟩ := Go.ChangeShapes.trod_struct2 Try.underlying34 hx
    rw [cells_act] at hl
    simp only [cells_int, cells_tuple] at h0 h1
    obtain ⟨k, e0, _, _⟩ := DataW.trod_int Try.underlying3 h0
    obtain ⟨t, e1⟩ := read_tuple h1
    match cs, hl with
    | [c0, c1, c2, c3, c4, c5, c6], _ =>
      simp [LTuple.cells] at e0 e1
      obtain ⟨e1, e2, e3, e4, e5, e6⟩ := e1
      subst e0 e1 e2 e3 e4 e5 e6
      refine ⟨⟨k, t⟩, fun j hj => ?_⟩
      match j, hj with
      | 0, _ => exact ⟨_, rfl, .int _⟩
      | 1, _ => exact ⟨_, rfl, .str _⟩
      | 2, _ => exact ⟨_, rfl, .str _⟩
      | 3, _ => exact ⟨_, rfl, .str _⟩
      | 4, _ => exact ⟨_, rfl, .str _⟩
      | 5, _ => exact ⟨_, rfl, .str _⟩
      | 6, _ => exact ⟨_, rfl, .str _⟩) hf
  rw [hv] at e
  have : v = v' := by simpa using e
  subst this
  exact ⟨xs, hs, hr, hd⟩

set_option maxRecDepth 100000 in
theorem contractFactsPlay (H : Type) (enc : TypeId × Value → H) (W : World) (base : Nat) (args : Array Value) (ds gs : List (DataW H)) (before : List MemPlace)
    (hval : ∀ (j : Nat) t v, Try.f3.params[j]? = some t → args[j]? = some v → Value.okWide Try.prog W .any base t v)
    (hW : DataW.Whole enc Try.prog Try.f3.params.toList Rows.factsPlaySpec.vars false W args.toList ds gs before) (hk : Rows.uptoSmall H (ds ++ gs) = true) :
    Calls Try.prog 3 args W fun e W' => ∃ v, e = .returned v ∧ Rows.factsPlaySpec.post enc Try.prog Try.f3 false true false false W args v W' := by
  have hW' := hW
  obtain ⟨p, q, hA0, hV, rfl, hfz, hnd⟩ := hW
  have hA : DataW.TrodAll enc Try.prog W 0 (fun _ => true) true Try.f3.params.toList args.toList ds p := hA0
  rw [Try.params3] at hA hval
  obtain ⟨v0, vs0, d0, ds0, p0, q0, hargs, rfl, rfl, h0, r0⟩ := trodAll_cons hA
  obtain ⟨v1, vs1, d1, ds1, p1, q1, rfl, rfl, rfl, h1, r1⟩ := trodAll_cons r0
  obtain ⟨rfl, rfl, rfl⟩ := trodAll_nil r1
  obtain rfl : args = #[v0, v1] := by cases args; simp_all
  obtain ⟨rfl, rfl⟩ := trodVars_none hV
  have lt0 : ∀ x ∈ p0, x.block < W.heap.size := by obtain ⟨m, hm⟩ := h0; exact DataW.trod_lt m _ _ _ hm
  have lt1 : ∀ x ∈ p1, x.block < W.heap.size := by obtain ⟨m, hm⟩ := h1; exact DataW.trod_lt m _ _ _ hm
  obtain ⟨a0, len0, cap0, rfl⟩ := okWide_slice Try.underlying22 (hval 0 22 v0 rfl rfl)
  obtain ⟨xs0, hs0, hrep0, hd0⟩ := open_tuples rfl h0
  have hl0 : xs0.length ≤ 1048576 := bulk_slice hk (d := d0) (by simp) (hd0.imp (fun ⟨h, e⟩ => ⟨h, by rw [e]; rfl⟩) id)
  obtain ⟨a1, len1, cap1, rfl⟩ := okWide_slice Try.underlying23 (hval 1 23 v1 rfl rfl)
  obtain ⟨xs1, hs1, hrep1, hd1⟩ := open_acts rfl h1
  have hl1 : xs1.length ≤ 1048576 := bulk_slice hk (d := d1) (by simp) (hd1.imp (fun ⟨h, e⟩ => ⟨h, by rw [e]; rfl⟩) id)
  clear hA0 hval
  refine (play_walk (hrep0 (by omega)) hs0 hl0 (hrep1 (by omega)) hs1 hl1).mono fun e W' ⟨he, bel⟩ => ?_
  subst he
  exact ⟨_, rfl, _, _, _, [], _, [], hW', trodAll_mk1 (shut_bool Try.underlying4 _),
    (trodAll_cons_mk (Below.trod laidOut (by kernel_rfl) (of_decide_eq_true (by kernel_rfl)) h0 bel lt0) (trodAll_cons_mk (Below.trod laidOut (by kernel_rfl) (of_decide_eq_true (by kernel_rfl)) h1 bel lt1) (trodAll_mk0))), rfl, bel.frame _, fun h => by cases h⟩

set_option maxRecDepth 100000 in
theorem liftedFactsPlay (os : Os) (started : os.Started) (H : Type) (enc : TypeId × Value → H) (F : Stop.Interp) :
    ReturnsInHanded {} Try.checked os 3 .any ((Rows.OpenSpec.upto Rows.factsPlaySpec).pre6 enc Try.prog Try.f3 Rows.factsPlayUptoRow.domain false) (((Rows.OpenSpec.upto Rows.factsPlaySpec).at F).post enc Try.prog Try.f3 false true false false) := by
  refine returnsInHanded_of_cond (C := Try.checked) (s := Rows.OpenSpec.upto Rows.factsPlaySpec) (k := Rows.uptoSmall) rfl own started (by kernel_rfl) Try.func3
    (OpenSpec.witness (enc := enc) (C := Try.checked) (s := Rows.OpenSpec.upto Rows.factsPlaySpec) (k := Rows.uptoSmall) rfl false ⟨#[], #[.slice none 0 0, .slice none 0 0], []⟩ 8 (by kernel_rfl) (by kernel_rfl) (by kernel_rfl)
      (x := ([.nil, .nil], [], [])) (by kernel_rfl) rfl (by kernel_rfl)) ?_
  intro W base args ds gs before hval hW _ hk _
  exact contractFactsPlay H enc W base args ds gs before hval hW hk

theorem provedFactsPlay : Rows.FactsPlayUptoSaid :=
  OpenClaim.holds_of_cond 3 Try.f3 rfl rfl rfl rfl rfl rfl rfl ⟨rfl, rfl, rfl, rfl, rfl⟩ rfl rfl rfl rfl rfl (by kernel_rfl) Try.func3 (by kernel_rfl)
    (of_decide_eq_true (by kernel_rfl)) (by unfold Func.isWrapper; rw [if_neg (of_decide_eq_false (by kernel_rfl))]; exact ⟨rfl, rfl⟩)
    (fun os started H enc _ F => liftedFactsPlay os started H enc F)
end Go.Proofs.Ytnfkjodiielidaa

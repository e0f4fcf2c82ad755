/- Rules: who has a relation of a kind. -/
import Derived.Test.YtnfkjodiielidaaGreatDoorWnames
namespace Go.Proofs.YtnfkjodiielidaaGreatDoor
set_option linter.unusedVariables false
set_option linter.unusedSimpArgs false
open Go.RowKit

theorem find_first {α : Type} (xs : List α) (d : α) (q : α → Bool) : (firstP (fun j => q (xs.getD j d)) xs.length = -1 ∧ xs.find? q = none) ∨ ∃ i : Nat, ∃ h : i < xs.length, firstP (fun j => q (xs.getD j d)) xs.length = i ∧ xs.find? q = some xs[i] := by
  cases h : xs.find? q with
  | none =>
    left
    refine ⟨firstP_none fun j hj => ?_, rfl⟩
    rw [getD_at hj]
    have := List.find?_eq_none.1 h xs[j] (List.getElem_mem hj)
    simpa using this
  | some b =>
    right
    obtain ⟨hb, i, hi, he, hno⟩ := List.find?_eq_some_iff_getElem.1 h
    refine ⟨i, hi, firstP_some hi (by rw [getD_at hi, he]; exact hb) fun j hj => ?_, by rw [he]⟩
    rw [getD_at (by omega)]
    simpa using hno j hj
def exprZero : Value := .agg #[.string ⟨#[]⟩, .string ⟨#[]⟩, .string ⟨#[]⟩, .slice none 0 0]
def slimL (l : List LKind) : Prop := ∀ k, k ∈ l → ∀ r, r ∈ k.rules → r.expr.slim = true
set_option maxRecDepth 100000 in
set_option maxHeartbeats 2000000 in
theorem find1 (a b : ByteArray) (sa : Option Addr) (sn sc : Nat) (B : Nat) (W : World) (hB : B < W.heap.size) (hc : W.cell? ⟨B, 0, none⟩ = some (.string b)) :
    Calls Tryz.prog 88 #[.agg #[.string a, .slice sa sn sc], .pointer (some ⟨B, 0, none⟩)] W fun e W' => e = .returned (.bool (decide (a = b))) ∧ Below W.heap.size W W' := by
  have e := toList_beq a b
  generalize decide (a = b) = r at *
  go_enter Tryz.func88, Tryz.ntmps88
  go_wp2
  go_ret
  exact ⟨rfl, (Below.refl _ W).alloc (Nat.le_refl _) _⟩
set_option maxRecDepth 100000 in
set_option maxHeartbeats 8000000 in
theorem rule_Find {A : Nat → Prop} {w : World} {l : List LKind} {u : Value} (hu : RepD A w (.slice 2 (l.map LKind.d)) u) (hsl : slimL l) (kind rel : ByteArray) :
    Calls Tryz.prog 46 #[u, .string kind, .string rel] w fun r w' => (match findL l kind rel with
      | none => r = .returned (.tuple #[exprZero, .bool false])
      | some e => ∃ v, r = .returned (.tuple #[exprVal e v, .bool true]) ∧ RepD (fun b => w.heap.size ≤ b) w' (.slice 4 (e.parts.map LExpr.d)) v) ∧ Below w.heap.size w w' := by
  obtain ⟨a, c, us, rfl, hl, hkc, hkr⟩ := hu.kindsCs
  have hB0 : Below w.heap.size w ((w.alloc (.cells #[.string kind] 9)).alloc (.cells #[.string ⟨#[]⟩, .string ⟨#[]⟩, .string ⟨#[]⟩, .slice none 0 0] 42)) := ((Below.refl _ w).alloc (Nat.le_refl _) _).alloc (by simp) _
  have hidx := indexFunc_Kind a l.length c (kindCs l us) ((w.alloc (.cells #[.string kind] 9)).alloc (.cells #[.string ⟨#[]⟩, .string ⟨#[]⟩, .string ⟨#[]⟩, .slice none 0 0] 42)) hl
      (fun k hlt => by
        obtain ⟨b, off, ha, h⟩ := hkc k hlt
        have hbl : b < w.heap.size := World.block_lt_of_cell? w _ h.1
        refine ⟨b, off, ha, ?_⟩
        have hc : ∀ o, _ := fun o => hB0.cell (p := ⟨b, o, none⟩) hbl
        simp only [hc]; exact h)
      88 #[.pointer (some ⟨w.heap.size, 0, none⟩)] (fun j => decide ((l.getD j k0).name = kind))
      (fun k hlt W2 hW2 => by
        obtain ⟨ka, kc, hf⟩ := (hkr k hlt).formM
        show Calls Tryz.prog _ (#[.agg #[.string (l.getD k k0).name, us k], .pointer (some ⟨w.heap.size, 0, none⟩)]) W2 _
        rw [hf]
        have hc2 : W2.cell? ⟨w.heap.size, 0, none⟩ = some (.string kind) := (hW2.cell (p := ⟨w.heap.size, 0, none⟩) (by simp; omega)).trans (by go_simp)
        exact find1 _ kind ka _ kc w.heap.size W2 (World.block_lt_of_cell? _ _ hc2) hc2)
      (enters_of Tryz.func88 (by kernel_rfl) rfl)
  have hff := find_first l k0 fun k => decide (k.name = kind)
  have hfl : findL l kind rel = (l.find? (fun k => decide (k.name = kind))).bind fun k => hasL k.rules rel := rfl
  have HB0 := Lib.hid hB0
  rcases hff with ⟨h1, h2⟩ | ⟨i, hi, h1, h2⟩
  · have hn : findL l kind rel = none := by rw [hfl, h2]; rfl
    rw [h1] at hidx
    rw [hn]
    have HI := Lib.hid hidx
    clear hidx hn hfl h1 h2 hkc hkr hu hsl hB0
    go_enter Tryz.func46, Tryz.ntmps46
    go_wp2_with fail
    refine HI.out.mono ?_
    rintro e w1 ⟨rfl, hb⟩
    have HBB := Lib.hid (below_past HB0.out hb)
    have hx := fun o v => (hb.cell (p := ⟨w.heap.size + 1, o, none⟩) (by simp)).trans (b := _) (c := some v)
    have fx := fun o => (hb.frozen (p := ⟨w.heap.size + 1, o, none⟩) (by simp)).trans (b := _) (c := false)
    have b0 : w1.cell? ⟨w.heap.size + 1, 0, none⟩ = some (.string ⟨#[]⟩) := hx 0 _ (by go_simp)
    have b1 : w1.cell? ⟨w.heap.size + 1, 1, none⟩ = some (.string ⟨#[]⟩) := hx 1 _ (by go_simp)
    have b2 : w1.cell? ⟨w.heap.size + 1, 2, none⟩ = some (.string ⟨#[]⟩) := hx 2 _ (by go_simp)
    have b3 : w1.cell? ⟨w.heap.size + 1, 3, none⟩ = some (.slice none 0 0) := hx 3 _ (by go_simp)
    have f0 : ∀ j, w1.frozen? ⟨w.heap.size + 1, j, none⟩ = false := fun j => fx j (by go_simp)
    clear hx fx hb
    go_wp2
    refine bodyPost_ret (v := .tuple #[exprZero, .bool false]) (by simp [results, Tryz.results46, go_sem, b0, b1, b2, b3, exprZero]) rfl ⟨rfl, ?_⟩
    exact ((((HBB.out.setCell (by simp) _).setCell (by simp) _).setCell (by simp) _).setCell (by simp) _)
  · obtain ⟨b, off, rfl, e0, e1⟩ := hkc i hi
    have hbl : b < w.heap.size := World.block_lt_of_cell? w _ e0
    have hkr1 := hkr i hi
    obtain ⟨ka, kc, hkf⟩ := hkr1.formM
    simp only [kindCs, hkf] at e0 e1
    rw [hkf] at hkr1
    have hgd : l.getD i k0 = l[i] := getD_at hi
    rw [hgd] at e0 e1 hkr1 hkf
    have hfl2 : findL l kind rel = hasL l[i].rules rel := by rw [hfl, h2]; rfl
    have hsl2 := hsl l[i] (List.getElem_mem hi)
    rw [h1] at hidx
    have hff2 := find_first l[i].rules r0 fun r => decide (r.rel = rel)
    have hhas := fun W (hW : Below w.heap.size w W) => rule_has l[i].name l[i].rules _ rel W (hkr1.old hW)
    have hhi : hasI l[i].rules rel = firstP (fun j => decide ((l[i].rules.getD j r0).rel = rel)) l[i].rules.length := rfl
    obtain ⟨ra, rc, rus, hrv, hrl, hrk, hrp⟩ := hkr1.rulesCs
    injection hrv with er1 er2 er3
    subst er1 er3
    generalize l[i] = kd at *
    rw [hhi] at hhas
    clear hhi hkf hgd h2 hfl hkc hkr hu hsl hkr1
    have HI := Lib.hid hidx; have HH := Lib.hid hhas
    have HE0 := Lib.hid e0; have HE1 := Lib.hid e1
    clear hidx hhas hB0 e0 e1
    rcases hff2 with ⟨g1, g2⟩ | ⟨j, hj, g1, g2⟩
    · have hn : findL l kind rel = none := by rw [hfl2]; unfold hasL; rw [g2]; rfl
      rw [g1] at HH
      rw [hn]
      clear hn hfl2 g1 g2
      go_enter Tryz.func46, Tryz.ntmps46
      go_wp2_with fail
      refine HI.out.mono ?_
      rintro e w1 ⟨rfl, hb⟩
      have hB1 := below_past HB0.out hb
      have e0 := (hB1.cell (p := ⟨b, off + i * 2, none⟩) hbl).trans HE0.out
      have e1 := (hB1.cell (p := ⟨b, off + i * 2 + 1, none⟩) hbl).trans HE1.out
      have hcall := HH.out w1 hB1
      have HC := Lib.hid hcall; have HBX := Lib.hid hb
      clear hcall hb
      go_wp2_with fail
      refine HC.out.mono ?_
      rintro e w2 ⟨rfl, hb2⟩
      have HBB := Lib.hid (below_past hB1 hb2)
      have hb := below_past HBX.out hb2
      have hx := fun o v => (hb.cell (p := ⟨w.heap.size + 1, o, none⟩) (by simp)).trans (b := _) (c := some v)
      have fx := fun o => (hb.frozen (p := ⟨w.heap.size + 1, o, none⟩) (by simp)).trans (b := _) (c := false)
      have b0 : w2.cell? ⟨w.heap.size + 1, 0, none⟩ = some (.string ⟨#[]⟩) := hx 0 _ (by go_simp)
      have b1 : w2.cell? ⟨w.heap.size + 1, 1, none⟩ = some (.string ⟨#[]⟩) := hx 1 _ (by go_simp)
      have b2 : w2.cell? ⟨w.heap.size + 1, 2, none⟩ = some (.string ⟨#[]⟩) := hx 2 _ (by go_simp)
      have b3 : w2.cell? ⟨w.heap.size + 1, 3, none⟩ = some (.slice none 0 0) := hx 3 _ (by go_simp)
      have f0 : ∀ j, w2.frozen? ⟨w.heap.size + 1, j, none⟩ = false := fun j => fx j (by go_simp)
      clear hx fx hb hb2 e0 e1 hB1
      go_wp2
      refine bodyPost_ret (v := .tuple #[exprZero, .bool false]) (by simp [results, Tryz.results46, go_sem, b0, b1, b2, b3, exprZero]) rfl ⟨rfl, ?_⟩
      exact ((((HBB.out.setCell (by simp) _).setCell (by simp) _).setCell (by simp) _).setCell (by simp) _)
    · have hn : findL l kind rel = some kd.rules[j].expr := by rw [hfl2]; unfold hasL; rw [g2]; rfl
      rw [g1] at HH
      rw [hn]
      have hsj := hsl2 kd.rules[j] (List.getElem_mem hj)
      obtain ⟨b2, off2, rfl, d0, d1, d2, d3, d4⟩ := hrk j hj
      have hbl2 : b2 < w.heap.size := World.block_lt_of_cell? w _ d0
      have hrp1 := hrp j hj
      obtain ⟨ua, uc, huf⟩ := hrp1.formM
      simp only [ruleCs, huf] at d0 d1 d2 d3 d4
      have hgd : kd.rules.getD j r0 = kd.rules[j] := getD_at hj
      rw [hgd] at d0 d1 d2 d3 d4 hrp1 huf
      rw [huf] at hrp1
      generalize kd.rules[j].expr = ex at *
      have hcop := fun W (hW : Below w.heap.size w W) => rule_copied _ ex hsj W _ (hrp1.old hW)
      unfold exprVal at hcop
      have HCOP := Lib.hid hcop
      have HD := Lib.hid (And.intro d1 (And.intro d2 (And.intro d3 d4)))
      clear hn hfl2 g1 g2 hcop hrk hrp hrp1 hsl2 hgd huf d0 d1 d2 d3 d4
      go_enter Tryz.func46, Tryz.ntmps46
      go_wp2_with fail
      refine HI.out.mono ?_
      rintro e w1 ⟨rfl, hb⟩
      have hB1 := below_past HB0.out hb
      have e0 := (hB1.cell (p := ⟨b, off + i * 2, none⟩) hbl).trans HE0.out
      have e1 := (hB1.cell (p := ⟨b, off + i * 2 + 1, none⟩) hbl).trans HE1.out
      have hcall := HH.out w1 hB1
      have HC := Lib.hid hcall; have HBX := Lib.hid hb
      clear hcall hb
      go_wp2_with fail
      refine HC.out.mono ?_
      rintro e w2 ⟨rfl, hb2⟩
      have hB2 := below_past hB1 hb2
      have HBX2 := Lib.hid (below_past HBX.out hb2)
      clear e0 e1 hb2 hB1
      have e1 := (hB2.cell (p := ⟨b, off + i * 2 + 1, none⟩) hbl).trans HE1.out
      have d1 := (hB2.cell (p := ⟨b2, off2 + j * 5 + 1, none⟩) hbl2).trans HD.out.1
      have d2 := (hB2.cell (p := ⟨b2, off2 + j * 5 + 2, none⟩) hbl2).trans HD.out.2.1
      have d3 := (hB2.cell (p := ⟨b2, off2 + j * 5 + 3, none⟩) hbl2).trans HD.out.2.2.1
      have d4 := (hB2.cell (p := ⟨b2, off2 + j * 5 + 4, none⟩) hbl2).trans HD.out.2.2.2
      have hcall := HCOP.out w2 hB2
      have HC2 := Lib.hid hcall
      clear hcall
      go_wp2_with fail
      refine HC2.out.mono ?_
      rintro e w3 ⟨v, rfl, hrv, hb3⟩
      have HBB := Lib.hid (below_past hB2 hb3)
      have hb := below_past HBX2.out hb3
      have hx := fun o v => (hb.cell (p := ⟨w.heap.size + 1, o, none⟩) (by simp)).trans (b := _) (c := some v)
      have fx := fun o => (hb.frozen (p := ⟨w.heap.size + 1, o, none⟩) (by simp)).trans (b := _) (c := false)
      have b0 : w3.cell? ⟨w.heap.size + 1, 0, none⟩ = some (.string ⟨#[]⟩) := hx 0 _ (by go_simp)
      have b1 : w3.cell? ⟨w.heap.size + 1, 1, none⟩ = some (.string ⟨#[]⟩) := hx 1 _ (by go_simp)
      have b2 : w3.cell? ⟨w.heap.size + 1, 2, none⟩ = some (.string ⟨#[]⟩) := hx 2 _ (by go_simp)
      have b3 : w3.cell? ⟨w.heap.size + 1, 3, none⟩ = some (.slice none 0 0) := hx 3 _ (by go_simp)
      have f0 : ∀ j, w3.frozen? ⟨w.heap.size + 1, j, none⟩ = false := fun j => fx j (by go_simp)
      obtain ⟨va, vc, rfl⟩ := hrv.formM
      have HRV := Lib.hid hrv
      have hs2 : w.heap.size + 1 < w2.heap.size := by have := HBX2.out.size; simp at this; omega
      clear hx fx hb e1 d1 d2 d3 d4 hrv hb3
      go_wp2
      refine bodyPost_ret (v := .tuple #[.agg #[.string ex.op, .string ex.name, .string ex.of, .slice va ex.parts.length vc], .bool true]) (by simp [results, Tryz.results46, go_sem, b0, b1, b2, b3]) rfl ⟨⟨_, rfl, ?_⟩, ?_⟩
      · refine (HRV.out.keep fun q hq _ => ?_).mono fun q hq _ => by have := hB2.size; omega
        rw [Below.heap_setCell _ _ _ q (by show q ≠ w.heap.size + 1; omega), Below.heap_setCell _ _ _ q (by show q ≠ w.heap.size + 1; omega), Below.heap_setCell _ _ _ q (by show q ≠ w.heap.size + 1; omega), Below.heap_setCell _ _ _ q (by show q ≠ w.heap.size + 1; omega)]
      · exact ((((HBB.out.setCell (by simp) _).setCell (by simp) _).setCell (by simp) _).setCell (by simp) _)
end Go.Proofs.YtnfkjodiielidaaGreatDoor

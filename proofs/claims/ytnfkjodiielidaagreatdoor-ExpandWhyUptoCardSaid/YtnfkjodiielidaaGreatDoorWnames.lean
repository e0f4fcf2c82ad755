/- Rules: whether all names are right; whether rules may be. -/
-- needs rule.Check
/- Rules: whether they may be. -/
import Derived.Test.YtnfkjodiielidaaGreatDoorWform
namespace Go.Proofs.YtnfkjodiielidaaGreatDoor
set_option linter.unusedVariables false
set_option linter.unusedSimpArgs false
open Go.RowKit

/-- A part names what its kind has. -/
def refB (k : LKind) (e : LExpr) : Bool :=
  if e.op = sRel then decide (0 ≤ hasI k.rules e.name) else if e.op = sFrom then decide (0 ≤ hasI k.rules e.of) && nameR e.name else true
def rowsB (rs : List LRule) : Bool := (List.range rs.length).all fun j => nameR (rs.getD j r0).rel && decide (hasI rs (rs.getD j r0).rel = j)
def kindsB (l : List LKind) : Bool := (List.range l.length).all fun i => nameR (l.getD i k0).name && decide (kindI l (l.getD i k0).name = i) && rowsB (l.getD i k0).rules
def namesB (l : List LKind) : Bool := kindsB l && l.all fun k => k.rules.all fun r => r.expr.all (refB k)
def sizesB (r : LRule) : Bool := decide (r.expr.size ≤ 64) && decide (r.expr.deep ≤ 8)
/-- Whether rules may be, as a number. -/
def codeR (l : List LKind) : Int :=
  if decide (64 < l.length) || (l.any fun k => decide (64 < k.rules.length)) || !(l.all fun k => k.rules.all sizesB) then 122
  else if !(l.all fun k => k.rules.all fun r => r.expr.all formB) then 120
  else if !namesB l then 121 else 0

set_option maxRecDepth 100000 in
set_option maxHeartbeats 2000000 in
theorem names1 (a b : ByteArray) (sa : Option Addr) (sn sc : Nat) (B : Nat) (W : World) (hB : B < W.heap.size) (hc : W.cell? ⟨B, 0, none⟩ = some (.string b)) :
    Calls Tryz.prog 125 #[.agg #[.string a, .slice sa sn sc], .pointer (some ⟨B, 0, none⟩)] W fun e W' => e = .returned (.bool (decide (a = b))) ∧ Below W.heap.size W W' := by
  have e := toList_beq a b
  generalize decide (a = b) = r at *
  go_enter Tryz.func125, Tryz.ntmps125
  go_wp2
  go_ret
  exact ⟨rfl, (Below.refl _ W).alloc (Nat.le_refl _) _⟩
set_option maxRecDepth 100000 in
set_option maxHeartbeats 4000000 in
theorem names21 (k : LKind) (x : LExpr) (ka : Option Addr) (kn kc : Nat) (ua : Option Addr) (un uc : Nat) (B : Nat) (W : World) (hw : WordsAt W) (h0 : W.cell? ⟨B, 0, none⟩ = some (.string k.name)) (h1 : W.cell? ⟨B, 1, none⟩ = some (.slice ka kn kc)) (hr : RepD (fun _ => True) W (.slice 5 (k.rules.map LRule.d)) (.slice ka kn kc)) :
    Calls Tryz.prog 127 #[exprVal x (.slice ua un uc), .pointer (some ⟨B, 0, none⟩)] W fun e W' => e = .returned (.bool (refB k x)) ∧ Below W.heap.size W W' := by
  have hB : B < W.heap.size := World.block_lt_of_cell? _ _ h0
  have hB0 : Below W.heap.size W (W.alloc (.cells #[.string x.op, .string x.name, .string x.of, .slice ua un uc] 42)) := (Below.refl _ W).alloc (Nat.le_refl _) _
  have hhas := fun s W' (hW : Below W.heap.size W W') => rule_has k.name k.rules (.slice ka kn kc) s W' (hr.old hW)
  have hnm := fun W' (hW : Below W.heap.size W W') => rule_name x.name W' (hw.old hW)
  obtain ⟨l1, l2, l3, _⟩ := word_lists
  have hf : refB k x = if x.op = sRel then decide (0 ≤ hasI k.rules x.name) else if x.op = sFrom then decide (0 ≤ hasI k.rules x.of) && nameR x.name else true := rfl
  generalize refB k x = r at *
  unfold exprVal at *
  generalize x.op = o at *
  generalize x.name = nm at *
  generalize x.of = f at *
  have HHAS := Lib.hid hhas; have HNM := Lib.hid hnm; have HB0 := Lib.hid hB0
  clear hhas hnm hw hr hB0
  by_cases c1 : o = sRel
  · rw [if_pos c1] at hf
    have hcall := HHAS.out nm _ HB0.out
    generalize hasI k.rules nm = i at *
    have HF := Lib.hid hf; have HC := Lib.hid hcall
    clear hf hcall HHAS
    subst c1
    go_enter Tryz.func127, Tryz.ntmps127
    go_wp2_with fail
    refine HC.out.mono ?_
    rintro e w1 ⟨rfl, hb⟩
    go_wp2
    go_ret
    exact ⟨ret_bool (by rw [HF.out]), below_past HB0.out hb⟩
  · rw [if_neg c1] at hf
    obtain ⟨a2, b2⟩ := word_no c1
    rw [l2] at a2 b2
    clear c1
    by_cases c2 : o = sFrom
    · rw [if_pos c2] at hf
      have hcall := HHAS.out f _ HB0.out
      generalize hasI k.rules f = i at *
      have HC := Lib.hid hcall
      clear hcall HHAS
      subst c2
      by_cases hi : 0 ≤ i
      · have hf2 : r = nameR nm := by rw [hf]; simp [hi]
        have HF := Lib.hid hf2
        generalize nameR nm = q at *
        clear hf hf2
        go_enter Tryz.func127, Tryz.ntmps127
        go_wp2_with fail
        refine HC.out.mono ?_
        rintro e w1 ⟨rfl, hb⟩
        have hB1 := below_past HB0.out hb
        obtain ⟨hc, hfz⟩ := bcell hb
        have hz := below_lt (n := W.heap.size) hb (by simp)
        have hnc := HNM.out _ hB1
        have HNC := Lib.hid hnc
        clear hnc
        go_wp2_with fail
        refine HNC.out.mono ?_
        rintro e w2 ⟨rfl, hb2⟩
        go_wp2
        go_ret
        exact ⟨ret_bool (by rw [HF.out]), below_past hB1 hb2⟩
      · have hf2 : r = false := by rw [hf]; simp [hi]
        have HF := Lib.hid hf2
        clear hf hf2
        go_enter Tryz.func127, Tryz.ntmps127
        go_wp2_with fail
        refine HC.out.mono ?_
        rintro e w1 ⟨rfl, hb⟩
        go_wp2
        go_ret
        exact ⟨ret_bool (by rw [HF.out]), below_past HB0.out hb⟩
    · rw [if_neg c2] at hf
      obtain ⟨a3, b3⟩ := word_no c2
      rw [l3] at a3 b3
      have HF := Lib.hid hf
      clear c2 hf
      go_enter Tryz.func127, Tryz.ntmps127
      go_wp2
      go_ret
      exact ⟨ret_bool (by rw [HF.out]), HB0.out⟩
set_option maxRecDepth 100000 in
set_option maxHeartbeats 4000000 in
theorem names2 (w : World) (hw : WordsAt w) : SaysKR w 126 #[] fun k r => r.expr.all (refB k) := by
  intro k r uk ur W hW hk hr
  obtain ⟨ka, kc, rfl⟩ := hk.formM
  obtain ⟨ra, rc, rfl⟩ := hr.formM
  have hB0 : Below W.heap.size W ((W.alloc (.cells #[.string k.name, .slice ka k.rules.length kc] 78)).alloc (.cells #[.string r.rel, .string r.expr.op, .string r.expr.name, .string r.expr.of, .slice ra r.expr.parts.length rc] 75)) := ((Below.refl _ W).alloc (Nat.le_refl _) _).alloc (by simp) _
  have hcall := rule_all 127 #[.pointer (some ⟨W.heap.size, 0, none⟩)] (refB k) (enters_of Tryz.func127 (by kernel_rfl) rfl) r.expr _ _ _ (hr.old hB0)
    (fun x u W2 hW2 hu => by
      obtain ⟨ua, uc, rfl⟩ := hu.formM
      have h0 : W2.cell? ⟨W.heap.size, 0, none⟩ = some (.string k.name) := (hW2.cell (p := ⟨W.heap.size, 0, none⟩) (by simp; omega)).trans (by go_simp)
      have h1 : W2.cell? ⟨W.heap.size, 1, none⟩ = some (.slice ka k.rules.length kc) := (hW2.cell (p := ⟨W.heap.size, 1, none⟩) (by simp; omega)).trans (by go_simp)
      exact names21 k x ka _ kc ua _ uc W.heap.size W2 (((hw.old hW).old hB0).old hW2) h0 h1 ((hk.old hB0).old hW2))
  have HC := Lib.hid hcall; have HB0 := Lib.hid hB0
  clear hcall hB0 hk hr hW hw
  show Calls Tryz.prog _ #[kindVal k (.slice ka k.rules.length kc), ruleVal r (.slice ra r.expr.parts.length rc)] W fun e W' => e = .returned (.bool (r.expr.all (refB k))) ∧ Below W.heap.size W W'
  unfold kindVal ruleVal at *
  unfold exprVal at HC
  generalize r.expr.all (refB k) = res at *
  go_enter Tryz.func126, Tryz.ntmps126
  go_wp2_with fail
  refine HC.out.mono ?_
  rintro e w1 ⟨rfl, hb⟩
  go_wp2
  go_ret
  exact ⟨rfl, below_past HB0.out hb⟩

theorem range_all_step {p : Nat → Bool} {n : Nat} (h : ∀ j, j < n → p j = true) : (List.range n).all p = true := List.all_eq_true.2 fun j hj => h j (List.mem_range.1 hj)
theorem range_all_no {p : Nat → Bool} {n j : Nat} (hj : j < n) (h : p j = false) : (List.range n).all p = false := List.all_eq_false.2 ⟨j, List.mem_range.2 hj, by rw [h]; simp⟩
set_option maxRecDepth 100000 in
set_option maxHeartbeats 8000000 in
theorem rule_names {A : Nat → Prop} {w : World} {l : List LKind} {u : Value} (hu : RepD A w (.slice 2 (l.map LKind.d)) u) (hw : WordsAt w) :
    Calls Tryz.prog 86 #[u] w fun r w' => r = .returned (.bool (namesB l)) ∧ Below w.heap.size w w' := by
  have hu2 := hu
  obtain ⟨a, c, us, rfl, hl, hkc, hkr⟩ := hu.kindsCs
  have heach := fun W (hW : Below w.heap.size w W) => rule_each 126 #[] (fun k r => r.expr.all (refB k)) (enters_of Tryz.func126 (by kernel_rfl) rfl) (hu2.old hW) (names2 W (hw.old hW))
  have hidx := fun (W : World) (hW : Below w.heap.size w W) (B : Nat) (nm : ByteArray) (hc : W.cell? ⟨B, 0, none⟩ = some (.string nm)) =>
    indexFunc_Kind a l.length c (kindCs l us) W hl
      (fun k hlt => by
        obtain ⟨b, off, ha, h⟩ := hkc k hlt
        have hbl : b < w.heap.size := World.block_lt_of_cell? w _ h.1
        refine ⟨b, off, ha, ?_⟩
        have hc : ∀ o, _ := fun o => hW.cell (p := ⟨b, o, none⟩) hbl
        simp only [hc]; exact h)
      125 #[.pointer (some ⟨B, 0, none⟩)] (fun j => decide ((l.getD j k0).name = nm))
      (fun k hlt W2 hW2 => by
        obtain ⟨ka, kc, hf⟩ := (hkr k hlt).formM
        show Calls Tryz.prog _ (#[.agg #[.string (l.getD k k0).name, us k], .pointer (some ⟨B, 0, none⟩)]) W2 _
        rw [hf]
        have hBl : B < W.heap.size := World.block_lt_of_cell? _ _ hc
        have hc2 : W2.cell? ⟨B, 0, none⟩ = some (.string nm) := (hW2.cell (p := ⟨B, 0, none⟩) hBl).trans hc
        exact names1 _ nm ka _ kc B W2 (World.block_lt_of_cell? _ _ hc2) hc2)
      (enters_of Tryz.func125 (by kernel_rfl) rfl)
  have hrb : ∀ i, (h : i < l.length) → (kindsB l = true → nameR (l.getD i k0).name = true ∧ kindI l (l.getD i k0).name = i ∧ rowsB (l.getD i k0).rules = true) := by
    intro i h hk
    unfold kindsB at hk
    have := List.all_eq_true.1 hk i (List.mem_range.2 h)
    simp only [Bool.and_eq_true, decide_eq_true_eq] at this
    exact ⟨this.1.1, this.1.2, this.2⟩
  have hkall : (∀ i, i < l.length → nameR (l.getD i k0).name = true ∧ kindI l (l.getD i k0).name = i ∧ rowsB (l.getD i k0).rules = true) → namesB l = (l.all fun k => k.rules.all fun r => r.expr.all (refB k)) := by
    intro h
    have : kindsB l = true := range_all_step fun i hi => by simp only [Bool.and_eq_true, decide_eq_true_eq]; exact ⟨⟨(h i hi).1, (h i hi).2.1⟩, (h i hi).2.2⟩
    unfold namesB
    rw [this, Bool.true_and]
  have hkno : kindsB l = false → namesB l = false := by intro h; unfold namesB; rw [h]; rfl
  generalize hall : (l.all fun k => k.rules.all fun r => r.expr.all (refB k)) = all2 at *
  clear hall
  generalize namesB l = res at *
  have HE := Lib.hid heach; have HI := Lib.hid hidx; have HRB := Lib.hid hrb; have HKA := Lib.hid hkall; have HKN := Lib.hid hkno; have HW := Lib.hid hw
  have HKC := Lib.hid hkc; have HKR := Lib.hid hkr
  clear heach hidx hrb hkall hkno hw hkc hkr hu hu2
  go_enter Tryz.func86, Tryz.ntmps86
  go_wp2
  go_loopw [9] (fun i wr => ∃ k : Nat, k ≤ l.length ∧ i = .int .i64 k ∧ Below w.heap.size w wr ∧ Aside (∀ j, j < k → nameR (l.getD j k0).name = true ∧ kindI l (l.getD j k0).name = j ∧ rowsB (l.getD j k0).rules = true)) (fun i _ => l.length - (intOf i).toNat)
  case atStart => exact ⟨0, by omega, rfl, Below.refl _ _, ⟨fun j h => by omega⟩⟩
  case round =>
    obtain ⟨k, hk, rfl, hB, hF⟩ := hrel
    by_cases hlt : k < l.length
    · obtain ⟨b, off, rfl, e0, e1⟩ := HKC.out k hlt
      have hbl : b < w.heap.size := World.block_lt_of_cell? w _ e0
      rw [← hB.cell (by exact hbl)] at e0 e1
      have hkr := HKR.out k hlt
      obtain ⟨ka, kc, hkf⟩ := hkr.formM
      simp only [kindCs, hkf] at e0 e1
      rw [hkf] at hkr
      have hrb := HRB.out k hlt
      have hB1 : Below w.heap.size w (wr.alloc (.cells #[.string (l.getD k k0).name, .slice ka (l.getD k k0).rules.length kc] 78)) := hB.alloc hB.size _
      have hnm := rule_name (l.getD k k0).name _ (HW.out.old hB1)
      have hid2 := fun W (hW : Below wr.heap.size wr W) hc => HI.out W (below_past hB hW) wr.heap.size (l.getD k k0).name hc
      have hki : kindI l (l.getD k k0).name = firstP (fun j => decide ((l.getD j k0).name = (l.getD k k0).name)) l.length := rfl
      rw [← hki] at hid2
      have hno : (nameR (l.getD k k0).name = false ∨ kindI l (l.getD k k0).name ≠ k ∨ rowsB (l.getD k k0).rules = false) → false = res := by
        intro h
        refine (HKN.out ?_).symm
        refine range_all_no hlt ?_
        rw [Bool.and_eq_false_iff, Bool.and_eq_false_iff, decide_eq_false_iff_not]
        rcases h with h | h | h
        · exact .inl (.inl h)
        · exact .inl (.inr h)
        · exact .inr h
      have hrowsno : ∀ j, j < (l.getD k k0).rules.length → (nameR ((l.getD k k0).rules.getD j r0).rel = false ∨ hasI (l.getD k k0).rules ((l.getD k k0).rules.getD j r0).rel ≠ j) → rowsB (l.getD k k0).rules = false := by
        intro j hj h
        refine range_all_no hj ?_
        rw [Bool.and_eq_false_iff, decide_eq_false_iff_not]
        exact h
      have hrowsyes : (∀ j, j < (l.getD k k0).rules.length → nameR ((l.getD k k0).rules.getD j r0).rel = true ∧ hasI (l.getD k k0).rules ((l.getD k k0).rules.getD j r0).rel = j) → rowsB (l.getD k k0).rules = true := by
        intro h
        refine range_all_step fun j hj => ?_
        rw [Bool.and_eq_true, decide_eq_true_eq]
        exact h j hj
      have hnext : nameR (l.getD k k0).name = true → kindI l (l.getD k k0).name = k → rowsB (l.getD k k0).rules = true → ∀ j, j < k + 1 → nameR (l.getD j k0).name = true ∧ kindI l (l.getD j k0).name = j ∧ rowsB (l.getD j k0).rules = true := by
        intro h1 h2 h3 j hj
        rcases Nat.lt_or_ge j k with h | h
        · exact hF.out j h
        · have : j = k := by omega
          subst this
          exact ⟨h1, h2, h3⟩
      have HNX := Lib.hid hnext
      clear hnext hrb hkf hki hF
      generalize kindI l (l.getD k k0).name = ki at *
      generalize l.getD k k0 = kd at *
      have HNM := Lib.hid hnm; have HID := Lib.hid hid2; have HNO := Lib.hid hno; have HRN := Lib.hid hrowsno; have HRY := Lib.hid hrowsyes
      have HB1 := Lib.hid hB1
      have hkr1 := hkr.old HB1.out
      have HKR1 := Lib.hid hkr
      clear hnm hid2 hno hrowsno hrowsyes hB1 hkr hkr1
      cases hnb : nameR kd.name with
      | false =>
        have hf := HNO.out (.inl hnb)
        rw [hnb] at HNM
        have HF := Lib.hid hf
        clear hf hnb
        go_wp2_with fail
        refine HNM.out.mono ?_
        rintro e w1 ⟨rfl, hb1⟩
        have HBB := Lib.hid (below_past HB1.out hb1)
        clear hb1
        go_wp2
        go_ret
        exact ⟨ret_bool HF.out, HBB.out⟩
      | true =>
        rw [hnb] at HNM
        go_wp2_with fail
        refine HNM.out.mono ?_
        rintro e w1 ⟨rfl, hb1⟩
        have hr1 : Below wr.heap.size wr w1 := below_past ((Below.refl _ wr).alloc (Nat.le_refl _) _) hb1
        have h0 : w1.cell? ⟨wr.heap.size, 0, none⟩ = some (.string kd.name) := (hb1.cell (p := ⟨wr.heap.size, 0, none⟩) (by simp)).trans (by go_simp)
        have h1 : w1.cell? ⟨wr.heap.size, 1, none⟩ = some (.slice ka kd.rules.length kc) := (hb1.cell (p := ⟨wr.heap.size, 1, none⟩) (by simp)).trans (by go_simp)
        have hcall := HID.out w1 hr1 h0
        have HC := Lib.hid hcall; have HR1 := Lib.hid hr1
        clear hcall hb1 hr1
        go_wp2_with fail
        refine HC.out.mono ?_
        rintro e w2 ⟨rfl, hb2⟩
        have hr2 := below_past HR1.out hb2
        have hlt2 : wr.heap.size < w1.heap.size := World.block_lt_of_cell? _ _ h0
        have h02 := (hb2.cell (p := ⟨wr.heap.size, 0, none⟩) hlt2).trans h0
        have h12 := (hb2.cell (p := ⟨wr.heap.size, 1, none⟩) hlt2).trans h1
        have HR2 := Lib.hid hr2
        clear h0 h1 hb2 HC hr2
        by_cases hki : ki = k
        · subst hki
          obtain ⟨ra, rc, rus, hrv, hrl, hrk, hrp⟩ := HKR1.out.rulesCs
          injection hrv with er1 er2 er3
          subst er1 er3
          have HRK := Lib.hid hrk; have HRP := Lib.hid hrp
          have hlt3 : wr.heap.size < w2.heap.size := World.block_lt_of_cell? _ _ h02
          have HX0 := Lib.hid h02; have HX1 := Lib.hid h12
          have hmid := HNX.out hnb rfl
          have HMID := Lib.hid hmid
          have hsbox := HR2.out.size
          obtain ⟨wo, rfl⟩ : ∃ x, x = wr := ⟨wr, rfl⟩
          clear hrk hrp hmid HNX hnb HR1 HB1
          go_wp2
          clear h02 h12
          go_loopw [28] (fun i wi => ∃ j : Nat, j ≤ kd.rules.length ∧ i = .int .i64 j ∧ Below w2.heap.size w2 wi ∧ Aside (∀ m, m < j → nameR (kd.rules.getD m r0).rel = true ∧ hasI kd.rules (kd.rules.getD m r0).rel = m)) (fun i _ => kd.rules.length - (intOf i).toNat)
          case atStart => exact ⟨0, by omega, rfl, Below.refl _ _, ⟨fun m h => by omega⟩⟩
          case round =>
            obtain ⟨j, hj, rfl, hBi, hG⟩ := hrel
            have hBo : Below wo.heap.size wo wr := below_past HR2.out hBi
            have hBwi : Below w.heap.size w wr := below_past hB hBo
            by_cases hltj : j < kd.rules.length
            · obtain ⟨b2, off2, rfl, r0', r1', r2', r3', r4'⟩ := HRK.out j hltj
              have hbl2 : b2 < w.heap.size := World.block_lt_of_cell? w _ r0'
              rw [← hBwi.cell (by exact hbl2)] at r0' r1' r2' r3' r4'
              obtain ⟨ua, uc, huf⟩ := (HRP.out j hltj).formM
              simp only [ruleCs, huf] at r0' r1' r2' r3' r4'
              have hno1 := HRN.out j hltj
              have hnx1 : nameR (kd.rules.getD j r0).rel = true → hasI kd.rules (kd.rules.getD j r0).rel = j → ∀ m, m < j + 1 → nameR (kd.rules.getD m r0).rel = true ∧ hasI kd.rules (kd.rules.getD m r0).rel = m := by
                intro h1 h2 m hm
                rcases Nat.lt_or_ge m j with h | h
                · exact hG.out m h
                · have : m = j := by omega
                  subst this
                  exact ⟨h1, h2⟩
              have HNX1 := Lib.hid hnx1; have HNO1 := Lib.hid hno1
              clear hnx1 hno1 hG huf
              generalize kd.rules.getD j r0 = ru at *
              have hBa : Below wr.heap.size wr (wr.alloc (.cells #[.string ru.rel, .string ru.expr.op, .string ru.expr.name, .string ru.expr.of, .slice ua ru.expr.parts.length uc] 75)) := (Below.refl _ _).alloc (Nat.le_refl _) _
              have hnm := rule_name ru.rel _ (HW.out.old (below_past hBwi hBa))
              have hhas := fun W (hW : Below w.heap.size w W) => rule_has kd.name kd.rules (.slice (some ⟨b2, off2, none⟩) kd.rules.length kc) ru.rel W (HKR1.out.old hW)
              have HNM1 := Lib.hid hnm; have HH1 := Lib.hid hhas; have HBA := Lib.hid hBa; have HBWI := Lib.hid hBwi
              clear hnm hhas hBa hBwi
              cases hnb1 : nameR ru.rel with
              | false =>
                have hf := HNO.out (.inr (.inr (HNO1.out (.inl hnb1))))
                rw [hnb1] at HNM1
                have HF := Lib.hid hf
                clear hf hnb1
                go_wp2_with fail
                refine HNM1.out.mono ?_
                rintro e w3 ⟨rfl, hb3⟩
                have HBB := Lib.hid (below_past HBWI.out (below_past HBA.out hb3))
                clear hb3
                go_wp2
                go_ret
                exact ⟨ret_bool HF.out, HBB.out⟩
              | true =>
                rw [hnb1] at HNM1
                go_wp2_with fail
                refine HNM1.out.mono ?_
                rintro e w3 ⟨rfl, hb3⟩
                have hr3 := below_past HBA.out hb3
                have hq0 : w3.cell? ⟨wr.heap.size, 0, none⟩ = some (.string ru.rel) := (hb3.cell (p := ⟨wr.heap.size, 0, none⟩) (by simp)).trans (by go_simp)
                have hk0 : w3.cell? ⟨wo.heap.size, 0, none⟩ = some (.string kd.name) := ((below_past hBi hr3).cell (p := ⟨wo.heap.size, 0, none⟩) hlt3).trans HX0.out
                have hk1 : w3.cell? ⟨wo.heap.size, 1, none⟩ = some (.slice (some ⟨b2, off2, none⟩) kd.rules.length kc) := ((below_past hBi hr3).cell (p := ⟨wo.heap.size, 1, none⟩) hlt3).trans HX1.out
                have hcall := HH1.out w3 (below_past HBWI.out hr3)
                generalize hasI kd.rules ru.rel = hi at *
                have HC := Lib.hid hcall; have HR3 := Lib.hid hr3
                clear hcall hb3 hr3 HH1
                go_wp2_with fail
                refine HC.out.mono ?_
                rintro e w4 ⟨rfl, hb4⟩
                have HR4 := Lib.hid (below_past HR3.out hb4)
                clear hb4
                by_cases hij : hi = j
                · subst hij
                  have hn := HNX1.out hnb1 rfl
                  have HN1 := Lib.hid hn
                  clear hn hnb1
                  go_wp2
                  first
                    | exact ⟨⟨j + 1, by omega, by go_num, below_past hBi HR4.out, ⟨HN1.out⟩⟩, by simp [intOf] <;> omega⟩
                    | (go_roundw
                       case rel => exact ⟨j + 1, by omega, by go_num, below_past hBi HR4.out, ⟨HN1.out⟩⟩
                       case measure => simp [intOf]; omega)
                · have hf := HNO.out (.inr (.inr (HNO1.out (.inr hij))))
                  have HF := Lib.hid hf
                  have hne : (hi == (j : Int)) = false := by rw [beq_eq_false_iff_ne]; exact hij
                  have hne2 : (hi != (j : Int)) = true := by rw [bne_iff_ne]; exact hij
                  clear hf hnb1
                  go_wp2
                  go_ret
                  exact ⟨ret_bool HF.out, below_past HBWI.out HR4.out⟩
            · have hrows := HRY.out fun m hm => hG.out m (by omega)
              have hn := HMID.out hrows
              have HN1 := Lib.hid hn
              clear hrows hn hG
              go_wp2
              first
                | exact ⟨⟨k + 1, by omega, by go_num, hBwi, ⟨HN1.out⟩⟩, by simp [intOf] <;> omega⟩
                | (go_roundw
                   case rel => exact ⟨k + 1, by omega, by go_num, hBwi, ⟨HN1.out⟩⟩
                   case measure => simp [intOf]; omega)
        · have hf := HNO.out (.inr (.inl hki))
          have HF := Lib.hid hf
          have hne : (ki == (k : Int)) = false := by rw [beq_eq_false_iff_ne]; exact hki
          have hne2 : (ki != (k : Int)) = true := by rw [bne_iff_ne]; exact hki
          have HBB := Lib.hid (below_past hB HR2.out)
          clear hf hnb
          go_wp2
          go_ret
          exact ⟨ret_bool HF.out, HBB.out⟩
    · have hend := HKA.out fun j hj => hF.out j (by omega)
      have hcall := HE.out _ hB
      have HC := Lib.hid hcall; have HEND := Lib.hid hend
      clear hcall hend HE HI
      go_wp2_with fail
      refine HC.out.mono ?_
      rintro e w2 ⟨rfl, hb⟩
      go_wp2
      go_ret
      exact ⟨ret_bool HEND.out.symm, below_past hB hb⟩
end Go.Proofs.YtnfkjodiielidaaGreatDoor
namespace Go.Proofs.YtnfkjodiielidaaGreatDoor
set_option linter.unusedVariables false
set_option linter.unusedSimpArgs false
open Go.RowKit

set_option maxRecDepth 100000 in
set_option maxHeartbeats 2000000 in
theorem check1 (a : ByteArray) (sa : Option Addr) (sn sc : Nat) (W : World) : Calls Tryz.prog 78 #[.agg #[.string a, .slice sa sn sc]] W fun e W' => e = .returned (.bool (decide (64 < sn))) ∧ Below W.heap.size W W' := by
  go_enter Tryz.func78, Tryz.ntmps78
  go_wp2
  go_ret
  refine ⟨ret_bool ?_, (Below.refl _ W).alloc (Nat.le_refl _) _⟩
  rw [Bool.eq_iff_iff]; simp only [decide_eq_true_eq]; omega
set_option maxRecDepth 100000 in
set_option maxHeartbeats 2000000 in
theorem check2 (w : World) : SaysKR w 80 #[] fun _ r => sizesB r := by
  intro k r uk ur W hW hk hr
  obtain ⟨ka, kc, rfl⟩ := hk.formM
  obtain ⟨ra, rc, rfl⟩ := hr.formM
  have hB0 : Below W.heap.size W ((W.alloc (.cells #[.string k.name, .slice ka k.rules.length kc] 78)).alloc (.cells #[.string r.rel, .string r.expr.op, .string r.expr.name, .string r.expr.of, .slice ra r.expr.parts.length rc] 75)) := ((Below.refl _ W).alloc (Nat.le_refl _) _).alloc (by simp) _
  have hsz := fun W2 (h : Below W.heap.size W W2) => rule_Size _ r.expr W2 _ (hr.old h)
  have hdp := fun W2 (h : Below W.heap.size W W2) => rule_Deep _ r.expr W2 _ (hr.old h)
  have hs : sizesB r = (decide (r.expr.size ≤ 64) && decide (r.expr.deep ≤ 8)) := rfl
  show Calls Tryz.prog _ #[kindVal k (.slice ka k.rules.length kc), ruleVal r (.slice ra r.expr.parts.length rc)] W fun e W' => e = .returned (.bool (sizesB r)) ∧ Below W.heap.size W W'
  unfold kindVal ruleVal at *
  unfold exprVal at hsz hdp
  generalize sizesB r = res at *
  generalize r.expr.size = sz at *
  generalize r.expr.deep = dp at *
  have HS := Lib.hid hsz; have HD := Lib.hid hdp; have HR := Lib.hid hs; have HB0 := Lib.hid hB0
  clear hsz hdp hs hB0 hk hr hW
  by_cases h1 : sz ≤ 64
  · have hc := HS.out _ HB0.out
    have HC := Lib.hid hc
    clear hc
    have hr2 : decide (dp ≤ 8) = res := by rw [HR.out]; simp [h1]
    have HR2 := Lib.hid hr2
    clear hr2
    go_enter Tryz.func80, Tryz.ntmps80
    go_wp2_with fail
    refine HC.out.mono ?_
    rintro e w1 ⟨rfl, hb⟩
    have hB1 := below_past HB0.out hb
    obtain ⟨hc, hf⟩ := bcell hb
    have hz := below_lt (n := W.heap.size + 1) hb (by simp)
    have hcd := HD.out _ hB1
    have HCD := Lib.hid hcd
    clear hcd
    go_wp2_with fail
    refine HCD.out.mono ?_
    rintro e w2 ⟨rfl, hb2⟩
    go_wp2
    go_ret
    exact ⟨ret_bool (by rw [← HR2.out]), below_past hB1 hb2⟩
  · have hc := HS.out _ HB0.out
    have HC := Lib.hid hc
    clear hc
    have hr2 : false = res := by rw [HR.out]; simp [h1]
    have HR2 := Lib.hid hr2
    clear hr2
    go_enter Tryz.func80, Tryz.ntmps80
    go_wp2_with fail
    refine HC.out.mono ?_
    rintro e w1 ⟨rfl, hb⟩
    go_wp2
    go_ret
    exact ⟨ret_bool HR2.out, below_past HB0.out hb⟩
set_option maxRecDepth 100000 in
set_option maxHeartbeats 2000000 in
theorem check3 (w : World) : SaysKR w 83 #[] fun _ r => r.expr.all formB := by
  intro k r uk ur W hW hk hr
  obtain ⟨ka, kc, rfl⟩ := hk.formM
  obtain ⟨ra, rc, rfl⟩ := hr.formM
  have hB0 : Below W.heap.size W ((W.alloc (.cells #[.string k.name, .slice ka k.rules.length kc] 78)).alloc (.cells #[.string r.rel, .string r.expr.op, .string r.expr.name, .string r.expr.of, .slice ra r.expr.parts.length rc] 75)) := ((Below.refl _ W).alloc (Nat.le_refl _) _).alloc (by simp) _
  have hcall := rule_all 85 #[] formB (enters_of Tryz.func85 (by kernel_rfl) rfl) r.expr _ _ _ (hr.old hB0)
    (fun x u W2 hW2 hu => by
      obtain ⟨ua, uc, rfl⟩ := hu.formM
      exact rule_form x ua uc W2)
  show Calls Tryz.prog _ #[kindVal k (.slice ka k.rules.length kc), ruleVal r (.slice ra r.expr.parts.length rc)] W fun e W' => e = .returned (.bool (r.expr.all formB)) ∧ Below W.heap.size W W'
  unfold kindVal ruleVal at *
  unfold exprVal at hcall
  generalize r.expr.all formB = res at *
  have HC := Lib.hid hcall; have HB0 := Lib.hid hB0
  clear hcall hB0 hk hr hW
  go_enter Tryz.func83, Tryz.ntmps83
  go_wp2_with fail
  refine HC.out.mono ?_
  rintro e w1 ⟨rfl, hb⟩
  go_wp2
  go_ret
  exact ⟨rfl, below_past HB0.out hb⟩
set_option maxRecDepth 100000 in
set_option maxHeartbeats 8000000 in
theorem rule_Check {A : Nat → Prop} {w : World} {l : List LKind} {u : Value} (hu : RepD A w (.slice 2 (l.map LKind.d)) u) (hw : WordsAt w) :
    Calls Tryz.prog 45 #[u] w fun r w' => r = .returned (.int .i64 (codeR l)) ∧ Below w.heap.size w w' := by
  have hu2 := hu
  obtain ⟨a, c, us, rfl, hl, hkc, hkr⟩ := hu.kindsCs
  have h2 := fun W (hW : Below w.heap.size w W) => rule_each 80 #[] (fun _ r => sizesB r) (enters_of Tryz.func80 (by kernel_rfl) rfl) (hu2.old hW) (check2 W)
  have h3 := fun W (hW : Below w.heap.size w W) => rule_each 83 #[] (fun _ r => r.expr.all formB) (enters_of Tryz.func83 (by kernel_rfl) rfl) (hu2.old hW) (check3 W)
  have h4 := fun W (hW : Below w.heap.size w W) => rule_names (hu2.old hW) (hw.old hW)
  have h1 := fun (W : World) (hW : Below w.heap.size w W) =>
    containsFunc_Kind a l.length c (kindCs l us) W hl
      (fun k hlt => by
        obtain ⟨b, off, ha, h⟩ := hkc k hlt
        have hbl : b < w.heap.size := World.block_lt_of_cell? w _ h.1
        refine ⟨b, off, ha, ?_⟩
        have hc : ∀ o, _ := fun o => hW.cell (p := ⟨b, o, none⟩) hbl
        simp only [hc]; exact h)
      78 #[] (fun j => decide (64 < (l.getD j k0).rules.length))
      (fun k hlt W2 hW2 => by
        obtain ⟨ka, kc, hf⟩ := (hkr k hlt).formM
        show Calls Tryz.prog _ (#[.agg #[.string (l.getD k k0).name, us k]]) W2 _
        rw [hf]
        exact check1 _ ka _ kc W2)
      (enters_of Tryz.func78 (by kernel_rfl) rfl)
  have hany := range_any l k0 fun k => decide (64 < k.rules.length)
  simp only [hany] at h1
  have hcode : codeR l = if decide (64 < l.length) || (l.any fun k => decide (64 < k.rules.length)) || !(l.all fun k => k.rules.all sizesB) then 122
    else if !(l.all fun k => k.rules.all fun r => r.expr.all formB) then 120
    else if !namesB l then 121 else 0 := rfl
  generalize codeR l = r at *
  generalize (l.any fun k => decide (64 < k.rules.length)) = b1 at *
  have hs : (l.all fun k => k.rules.all fun r => sizesB r) = (l.all fun k => k.rules.all sizesB) := rfl
  rw [← hs] at hcode
  generalize (l.all fun k => k.rules.all fun r => sizesB r) = b2 at *
  generalize (l.all fun k => k.rules.all fun r => r.expr.all formB) = b3 at *
  generalize namesB l = b4 at *
  have H1 := Lib.hid h1; have H2 := Lib.hid h2; have H3 := Lib.hid h3; have H4 := Lib.hid h4
  generalize l.length = n at *
  clear h1 h2 h3 h4 hany hs hkc hkr hu hu2 hw
  by_cases hn : 64 < n
  · have hr : 122 = r := by rw [hcode]; simp [hn]
    have HR := Lib.hid hr
    clear hr hcode
    go_enter Tryz.func45, Tryz.ntmps45
    go_wp2
    go_ret
    exact ⟨ret_int HR.out, Below.refl _ _⟩
  have hnd : decide (64 < n) = false := by simp [hn]
  rw [hnd, Bool.false_or] at hcode
  have hc1 := H1.out w (Below.refl _ _)
  have HC1 := Lib.hid hc1
  clear hc1 H1 hnd
  cases b1 with
  | true =>
    have hr : 122 = r := by rw [hcode]; simp
    have HR := Lib.hid hr
    clear hr hcode
    go_enter Tryz.func45, Tryz.ntmps45
    go_wp2_with fail
    refine HC1.out.mono ?_
    rintro e w1 ⟨rfl, hb1⟩
    go_wp2
    go_ret
    exact ⟨ret_int HR.out, hb1⟩
  | false =>
    go_enter Tryz.func45, Tryz.ntmps45
    go_wp2_with fail
    refine HC1.out.mono ?_
    rintro e w1 ⟨rfl, hb1⟩
    have hc2 := H2.out w1 hb1
    have HC2 := Lib.hid hc2
    clear hc2
    go_wp2_with fail
    refine HC2.out.mono ?_
    rintro e w2 ⟨rfl, hb2⟩
    have hB2 := below_past hb1 hb2
    cases b2 with
    | false =>
      have hr : 122 = r := by rw [hcode]; simp
      have HR := Lib.hid hr
      clear hr hcode
      go_wp2
      go_ret
      exact ⟨ret_int HR.out, hB2⟩
    | true =>
      have hc3 := H3.out w2 hB2
      have HC3 := Lib.hid hc3
      clear hc3
      go_wp2_with fail
      refine HC3.out.mono ?_
      rintro e w3 ⟨rfl, hb3⟩
      have hB3 := below_past hB2 hb3
      cases b3 with
      | false =>
        have hr : 120 = r := by rw [hcode]; simp
        have HR := Lib.hid hr
        clear hr hcode
        go_wp2
        go_ret
        exact ⟨ret_int HR.out, hB3⟩
      | true =>
        have hc4 := H4.out w3 hB3
        have HC4 := Lib.hid hc4
        clear hc4
        go_wp2_with fail
        refine HC4.out.mono ?_
        rintro e w4 ⟨rfl, hb4⟩
        have hB4 := below_past hB3 hb4
        cases b4 with
        | false =>
          have hr : 121 = r := by rw [hcode]; simp
          have HR := Lib.hid hr
          clear hr hcode
          go_wp2
          go_ret
          exact ⟨ret_int HR.out, hB4⟩
        | true =>
          have hr : 0 = r := by rw [hcode]; simp
          have HR := Lib.hid hr
          clear hr hcode
          go_wp2
          go_ret
          exact ⟨ret_int HR.out, hB4⟩
end Go.Proofs.YtnfkjodiielidaaGreatDoor

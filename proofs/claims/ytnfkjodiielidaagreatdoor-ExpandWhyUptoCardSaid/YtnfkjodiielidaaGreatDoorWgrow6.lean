/- How a tree grows: all of it. -/
import Derived.Test.YtnfkjodiielidaaGreatDoorWgrow3
import Derived.Test.YtnfkjodiielidaaGreatDoorWgrow4
import Derived.Test.YtnfkjodiielidaaGreatDoorWgrow5
import Derived.Test.YtnfkjodiielidaaGreatDoorWrfind
namespace Go.Proofs.YtnfkjodiielidaaGreatDoor
set_option linter.unusedVariables false
set_option linter.unusedSimpArgs false
open Go.RowKit

theorem grow_expr {l : List LKind} {S : List LTuple} {gb fb mb : Nat} {ul : Value} {d : Nat} (hd : d ≤ 1000) (hS : S.length ≤ 1000000) (hg : Grown l S gb fb mb ul d) (e : LExpr) : e.slim = true → ExprOk l S gb fb mb ul d e := by
  induction e using LExpr.ind with
  | h e ih =>
  intro hsl W left o u h0 hle hst hu
  have ih2 : ∀ x, x ∈ e.parts → ExprOk l S gb fb mb ul d x := fun x hx => ih x hx (LExpr.slim_part hsl hx)
  by_cases c1 : e.op = sRel
  · exact expr_rel hd hS hg e hsl ih2 c1 W left o u h0 hle hst hu
  · by_cases hz : left = 0
    · exact expr_zero hd hS hg e hsl ih2 c1 W left o u hz h0 hle hst hu
    · by_cases c2 : e.op = sThis
      · exact expr_this hd hS hg e hsl ih2 c1 c2 W left o u hz h0 hle hst hu
      · by_cases c3 : e.op = sFrom
        · exact expr_from hd hS hg e hsl ih2 c1 c2 c3 W left o u hz h0 hle hst hu
        · exact expr_other hd hS hg e hsl ih2 c1 c2 c3 W left o u hz h0 hle hst hu

theorem find_mem {l : List LKind} {k r : ByteArray} {e : LExpr} (h : findL l k r = some e) : ∃ kd, kd ∈ l ∧ ∃ ru, ru ∈ kd.rules ∧ ru.expr = e := by
  unfold findL at h
  obtain ⟨kd, h1, h2⟩ := Option.bind_eq_some_iff.1 h
  unfold hasL at h2
  obtain ⟨ru, h3, h4⟩ := Option.map_eq_some_iff.1 h2
  exact ⟨kd, List.mem_of_find?_eq_some h1, ru, List.mem_of_find?_eq_some h3, h4⟩
theorem find_slim {l : List LKind} (hsl : slimL l) {k r : ByteArray} {e : LExpr} (h : findL l k r = some e) : e.slim = true := by
  obtain ⟨kd, h1, ru, h2, rfl⟩ := find_mem h
  exact hsl kd h1 ru h2
/-- Find, in one form. -/
theorem find_uni {A : Nat → Prop} {w : World} {l : List LKind} {u : Value} (hu : RepD A w (.slice 2 (l.map LKind.d)) u) (hsl : slimL l) (kind rel : ByteArray) :
    Calls Tryz.prog 46 #[u, .string kind, .string rel] w fun r w' => ∃ (q : LExpr) (va : Option Addr) (vc : Nat), r = .returned (.tuple #[.agg #[.string q.op, .string q.name, .string q.of, .slice va q.parts.length vc], .bool (findL l kind rel).isSome]) ∧
      RepD (fun b => w.heap.size ≤ b) w' (.slice 4 (q.parts.map LExpr.d)) (.slice va q.parts.length vc) ∧ (∀ e, findL l kind rel = some e → e = q) ∧ Below w.heap.size w w' := by
  refine (rule_Find hu hsl kind rel).mono ?_
  rintro r w' ⟨h, hb⟩
  cases hf : findL l kind rel with
  | none =>
    rw [hf] at h
    exact ⟨.mk ⟨#[]⟩ ⟨#[]⟩ ⟨#[]⟩ [], none, 0, h, .nil _ _ _, fun e he => by simp at he, hb⟩
  | some e =>
    rw [hf] at h
    obtain ⟨v, h1, h2⟩ := h
    obtain ⟨va, vc, rfl⟩ := h2.formM
    exact ⟨e, va, vc, h1, h2, fun x hx => by simpa using hx.symm, hb⟩
theorem res_done {W w2 : World} {R : Nat} (hR : W.heap.size ≤ R) {gb fb mb : Nat} {ul : Value} {l : List LKind} {S : List LTuple} {left left0 left' : Int} {T : LTree} {row : TRow}
    (hst : GrSt W gb fb mb ul l S left0) (hF : Fr (fun k => k = gb) W w2) (hS : GrSt w2 gb fb mb ul l S left') (hT : OutT (fun b => R < b) w2 T left left' row) :
    Fr (fun k => k = gb) W (w2.setCells R 0 row.cells) ∧ GrSt (w2.setCells R 0 row.cells) gb fb mb ul l S left' ∧ OutT (fun b => W.heap.size ≤ b) (w2.setCells R 0 row.cells) T left left' row := by
  have hFr := fr_setCells (g := R) row.cells 0 w2
  have hgW := hst.lt
  have hF3 : Fr (fun k => k = gb) W (w2.setCells R 0 row.cells) := hF.next hFr (fun i hi hm => by omega)
  exact ⟨hF3, hst.move hS hFr (by omega) hF3, (hT.keep fun b hb hlt => hFr.block b hlt (by omega)).mono fun b hb _ => by omega⟩
/-- What grow makes of a relation to an object, where it is called. -/
def GrowPost (l : List LKind) (S : List LTuple) (gb fb mb : Nat) (ul : Value) (W : World) (t : LTree) (left : Int) (r : Ending) (W' : World) : Prop :=
  ∃ row left', r = .returned row.val ∧ Fr (fun k => k = gb) W W' ∧ GrSt W' gb fb mb ul l S left' ∧ OutT (fun b => W.heap.size ≤ b) W' t left left' row
set_option maxRecDepth 100000 in
set_option maxHeartbeats 8000000 in
theorem grow_at {l : List LKind} {S : List LTuple} {gb fb mb : Nat} {ul : Value} (hsl : slimL l) {d : Nat} (o : LUser) (W : World) (left : Int) (h0 : 0 ≤ left) (hle : left ≤ 1000000000000) (hst : GrSt W gb fb mb ul l S left)
    (he : ∀ e, 0 < d → findL l o.kind o.rel = some e → ∀ (W' : World) (u : Value), GrSt W' gb fb mb ul l S left → RepD (fun b => b ≠ gb) W' (.slice 4 (e.parts.map LExpr.d)) u →
      Calls Tryz.prog 91 #[.pointer (some ⟨gb, 0, none⟩), exprVal e u, .agg #[.string o.kind, .string o.id, .string o.rel], .int .i64 d] W' (GrowPost l S gb fb mb ul W' (growT l S d o) left)) :
    Calls Tryz.prog 47 #[.pointer (some ⟨gb, 0, none⟩), .agg #[.string o.kind, .string o.id, .string o.rel], .int .i64 d] W (GrowPost l S gb fb mb ul W (growT l S d o) left) := by
  have hf := fun W (h : GrSt W gb fb mb ul l S left) => find_uni h.kinds hsl o.kind o.rel
  obtain ⟨a, c, us, hul, _⟩ := hst.kinds.kindsCs
  subst hul
  have hstop : (findL l o.kind o.rel).isSome = false ∨ d = 0 → growT l S d o = tNone := by
    intro h
    cases d with
    | zero => rfl
    | succ d =>
      rcases h with h | h
      · simp only [Option.isSome_eq_false_iff, Option.isNone_iff_eq_none] at h
        simp [growT, h]
      · omega
  have hgo : ∀ q, (∀ e, findL l o.kind o.rel = some e → e = q) → (findL l o.kind o.rel).isSome = true → findL l o.kind o.rel = some q := by
    intro q h h2
    obtain ⟨e, h3⟩ := Option.isSome_iff_exists.1 h2
    rw [h3, h e h3]
  have hgW := hst.lt
  have HF := Lib.hid hf; have HST := Lib.hid hst; have HE := Lib.hid he; have HSTOP := Lib.hid hstop; have HGO := Lib.hid hgo
  clear hf hst he hstop hgo
  generalize findL l o.kind o.rel = fo at *
  generalize growT l S d o = T at *
  obtain ⟨is, his⟩ : ∃ b, b = fo.isSome := ⟨_, rfl⟩
  have HIS := Lib.hid his
  rw [← his] at HF HSTOP HGO
  clear his
  have hw1 : Below W.heap.size W ((W.alloc (.cells #[.string o.kind, .string o.id, .string o.rel] 25)).alloc (.cells #[.string ⟨#[]⟩, .slice none 0 0, .slice none 0 0] 32)) := ((Below.refl _ W).alloc (Nat.le_refl _) _).alloc (by simp) _
  have a0 : ((W.alloc (.cells #[.string o.kind, .string o.id, .string o.rel] 25)).alloc (.cells #[.string ⟨#[]⟩, .slice none 0 0, .slice none 0 0] 32)).heap[W.heap.size]? = some (.cells #[.string o.kind, .string o.id, .string o.rel] 25) := (Below.heap_alloc _ _ _ (by simp)).trans (heap_alloc_at rfl)
  have a1 : ((W.alloc (.cells #[.string o.kind, .string o.id, .string o.rel] 25)).alloc (.cells #[.string ⟨#[]⟩, .slice none 0 0, .slice none 0 0] 32)).heap[W.heap.size + 1]? = some (.cells #[.string ⟨#[]⟩, .slice none 0 0, .slice none 0 0] 32) := heap_alloc_at (by simp)
  have HW1 := Lib.hid hw1; have HA0 := Lib.hid a0; have HA1 := Lib.hid a1
  clear hw1 a0 a1
  go_enter Tryz.func47, Tryz.ntmps47
  go_wp2_with fail
  generalize (W.alloc (.cells #[.string o.kind, .string o.id, .string o.rel] 25)).alloc (.cells #[.string ⟨#[]⟩, .slice none 0 0, .slice none 0 0] 32) = w1 at *
  have hl0 := (Array.getElem?_eq_some_iff.1 HA0.out).1
  have hl1 := (Array.getElem?_eq_some_iff.1 HA1.out).1
  have hD1 : Below w1.heap.size w1 w1.drew := (Below.refl _ _).drew
  have hD2 : Below w1.heap.size w1 (w1.drew.alloc (.cells #[.string ⟨#[]⟩, .string ⟨#[]⟩, .string ⟨#[]⟩, .slice none 0 0] 42)) := hD1.alloc (Nat.le_refl _) _
  have hsh1 : (fun W' : World => W'.cell? ⟨gb, 0, none⟩ = some (.slice a l.length c) ∧ W'.cell? ⟨W.heap.size, 0, none⟩ = some (.string o.kind) ∧ W'.cell? ⟨W.heap.size, 2, none⟩ = some (.string o.rel)) w1.drew := by
    exact ⟨(HST.out.next (HW1.out.drew)).c0, (hD1.cell (p := ⟨W.heap.size, 0, none⟩) hl0).trans (by simp [World.cell?, HA0.out]), (hD1.cell (p := ⟨W.heap.size, 2, none⟩) hl0).trans (by simp [World.cell?, HA0.out])⟩
  have hkeep : ∀ (wa wb : World), Below w1.heap.size wa wb → (fun W' : World => W'.cell? ⟨gb, 0, none⟩ = some (.slice a l.length c) ∧ W'.cell? ⟨W.heap.size, 0, none⟩ = some (.string o.kind) ∧ W'.cell? ⟨W.heap.size, 2, none⟩ = some (.string o.rel)) wa → (fun W' : World => W'.cell? ⟨gb, 0, none⟩ = some (.slice a l.length c) ∧ W'.cell? ⟨W.heap.size, 0, none⟩ = some (.string o.kind) ∧ W'.cell? ⟨W.heap.size, 2, none⟩ = some (.string o.rel)) wb := by
    rintro wa wb hb ⟨z1, z2, z3⟩
    exact ⟨(hb.cell (p := ⟨gb, 0, none⟩) (by have := HW1.out.size; show gb < _; omega)).trans z1, (hb.cell (p := ⟨W.heap.size, 0, none⟩) hl0).trans z2, (hb.cell (p := ⟨W.heap.size, 2, none⟩) hl0).trans z3⟩
  have ST1 := Lib.hid (HST.out.next HW1.out.drew)
  have ST2 := Lib.hid (HST.out.next (HW1.out.trans (hD2.mono HW1.out.size)))
  have a7 : (w1.drew.alloc (.cells #[.string ⟨#[]⟩, .string ⟨#[]⟩, .string ⟨#[]⟩, .slice none 0 0] 42)).heap[w1.heap.size]? = some (.cells #[.string ⟨#[]⟩, .string ⟨#[]⟩, .string ⟨#[]⟩, .slice none 0 0] 42) := heap_alloc_at rfl
  have SH := Lib.hid hsh1; have HKP := Lib.hid hkeep; have HD1 := Lib.hid hD1; have HD2 := Lib.hid hD2; have HA7 := Lib.hid a7
  clear hD1 hD2 hsh1 hkeep a7
  go_region_held3 (fun W' => W'.cell? ⟨gb, 0, none⟩ = some (.slice a l.length c) ∧ W'.cell? ⟨W.heap.size, 0, none⟩ = some (.string o.kind) ∧ W'.cell? ⟨W.heap.size, 2, none⟩ = some (.string o.rel))
    (first
      | exact SH.out
      | exact HKP.out _ _ ((Below.refl w1.heap.size _).alloc (by first | exact HB2.out.size | exact Nat.le_refl w1.heap.size) _) SH.out
      | exact HKP.out _ _ (((((Below.refl w1.heap.size _).setCell (Nat.le_refl w1.heap.size) _).setCell (Nat.le_refl w1.heap.size) _).setCell (Nat.le_refl w1.heap.size) _).setCell (Nat.le_refl w1.heap.size) _) SH.out)
    (first
      | (go_at_call 46; refine (HF.out _ ST1.out).mono ?_; rintro r w2 ⟨q, va, vc, rfl, hrq, hqe, hb2⟩; have hb := below_past HD1.out hb2; have HB2 := Lib.hid hb; have HRQ := Lib.hid hrq; have HQE := Lib.hid hqe; have SH2 := Lib.hid (HKP.out _ _ (hb2.mono (Nat.le_refl _)) SH.out); clear SH hb hrq hqe hb2; have SH := SH2; clear SH2)
      | (go_at_call 46; refine (HF.out _ ST2.out).mono ?_; rintro r w2 ⟨q, va, vc, rfl, hrq, hqe, hb2⟩; have hb := below_past HD2.out hb2; have a8 := (hb2.block w1.heap.size (by simp)).trans HA7.out; have q0 : w2.cell? ⟨w1.heap.size, 0, none⟩ = some (.string ⟨#[]⟩) := (by simp [World.cell?, a8]); have q1 : w2.cell? ⟨w1.heap.size, 1, none⟩ = some (.string ⟨#[]⟩) := (by simp [World.cell?, a8]); have q2 : w2.cell? ⟨w1.heap.size, 2, none⟩ = some (.string ⟨#[]⟩) := (by simp [World.cell?, a8]); have q3 : w2.cell? ⟨w1.heap.size, 3, none⟩ = some (.slice none 0 0) := (by simp [World.cell?, a8]); have qz : ∀ j, w2.frozen? ⟨w1.heap.size, j, none⟩ = false := (fun j => by simp [World.frozen?, a8]); have HB2 := Lib.hid hb; have HRQ := Lib.hid hrq; have HQE := Lib.hid hqe; have HA8 := Lib.hid a8; have SH2 := Lib.hid (HKP.out _ _ (hb2.mono (by simp)) (HKP.out _ _ ((Below.refl w1.heap.size w1.drew).alloc (Nat.le_refl w1.heap.size) _) SH.out)); clear SH hb hrq hqe hb2 a8; have SH := SH2; clear SH2))
  all_goals
    first
      | (have hbz : Below w1.heap.size w1 (w2.alloc (.cells #[.string q.op, .string q.name, .string q.of, .slice va q.parts.length vc] 42)) := HB2.out.alloc HB2.out.size _
         have a9 : (w2.alloc (.cells #[.string q.op, .string q.name, .string q.of, .slice va q.parts.length vc] 42)).heap[w2.heap.size]? = some (.cells #[.string q.op, .string q.name, .string q.of, .slice va q.parts.length vc] 42) := heap_alloc_at rfl
         have hrz : RepD (fun b => b ≠ gb) (w2.alloc (.cells #[.string q.op, .string q.name, .string q.of, .slice va q.parts.length vc] 42)) (.slice 4 (q.parts.map LExpr.d)) (.slice va q.parts.length vc) := (HRQ.out.old ((Below.refl w2.heap.size w2).alloc (Nat.le_refl _) _)).mono fun b hb _ => by have h1 : w1.heap.size ≤ b := hb; have := HW1.out.size; omega
         change Exit.then _ _ _ _ (w2.alloc (.cells #[.string q.op, .string q.name, .string q.of, .slice va q.parts.length vc] 42))
         generalize hwz : w2.alloc (.cells #[.string q.op, .string q.name, .string q.of, .slice va q.parts.length vc] 42) = wz at *
         obtain ⟨B7, hB7⟩ : ∃ x, x = w2.heap.size := ⟨_, rfl⟩
         rw [← hB7] at a9 ⊢
         clear hB7 hwz)
      | (have hfz := fr_setCells (g := w1.heap.size) [.string q.op, .string q.name, .string q.of, .slice va q.parts.length vc] 0 w2
         have hbz : Below w1.heap.size w1 (w2.setCells w1.heap.size 0 [.string q.op, .string q.name, .string q.of, .slice va q.parts.length vc]) := (((HB2.out.setCell (p := ⟨w1.heap.size, 0, none⟩) (Nat.le_refl w1.heap.size) _).setCell (p := ⟨w1.heap.size, 1, none⟩) (Nat.le_refl w1.heap.size) _).setCell (p := ⟨w1.heap.size, 2, none⟩) (Nat.le_refl w1.heap.size) _).setCell (p := ⟨w1.heap.size, 3, none⟩) (Nat.le_refl w1.heap.size) _
         have a9 : (w2.setCells w1.heap.size 0 [.string q.op, .string q.name, .string q.of, .slice va q.parts.length vc]).heap[w1.heap.size]? = some (.cells #[.string q.op, .string q.name, .string q.of, .slice va q.parts.length vc] 42) := setCells_block _ _ _ [.string q.op, .string q.name, .string q.of, .slice va q.parts.length vc] 0 w2 _ HA8.out
         have hrz : RepD (fun b => b ≠ gb) (w2.setCells w1.heap.size 0 [.string q.op, .string q.name, .string q.of, .slice va q.parts.length vc]) (.slice 4 (q.parts.map LExpr.d)) (.slice va q.parts.length vc) := (HRQ.out.fr hfz fun b hb e => by have h1 : (w1.drew.alloc (.cells #[.string ⟨#[]⟩, .string ⟨#[]⟩, .string ⟨#[]⟩, .slice none 0 0] 42)).heap.size ≤ b := hb; simp at h1; omega).mono fun b hb _ => by have h1 : (w1.drew.alloc (.cells #[.string ⟨#[]⟩, .string ⟨#[]⟩, .string ⟨#[]⟩, .slice none 0 0] 42)).heap.size ≤ b := hb; simp at h1; have := HW1.out.size; omega
         change Exit.then _ _ _ _ (w2.setCells w1.heap.size 0 [.string q.op, .string q.name, .string q.of, .slice va q.parts.length vc])
         generalize hwz : w2.setCells w1.heap.size 0 [.string q.op, .string q.name, .string q.of, .slice va q.parts.length vc] = wz at *
         clear hfz
         obtain ⟨B7, hB7⟩ : ∃ x, x = w1.heap.size := ⟨_, rfl⟩
         rw [← hB7] at a9 ⊢
         clear hB7 hwz)
    have hbW : Below W.heap.size W wz := HW1.out.trans (hbz.mono HW1.out.size)
    have hstz := HST.out.next hbW
    have x0 : wz.cell? ⟨B7, 0, none⟩ = some (.string q.op) := by simp [World.cell?, a9]
    have x1 : wz.cell? ⟨B7, 1, none⟩ = some (.string q.name) := by simp [World.cell?, a9]
    have x2 : wz.cell? ⟨B7, 2, none⟩ = some (.string q.of) := by simp [World.cell?, a9]
    have x3 : wz.cell? ⟨B7, 3, none⟩ = some (.slice va q.parts.length vc) := by simp [World.cell?, a9]
    have zb := (hbz.block _ hl1).trans HA1.out
    have za := (hbz.block _ hl0).trans HA0.out
    have y0 : wz.cell? ⟨W.heap.size, 0, none⟩ = some (.string o.kind) := by simp [World.cell?, za]
    have y1 : wz.cell? ⟨W.heap.size, 1, none⟩ = some (.string o.id) := by simp [World.cell?, za]
    have y2 : wz.cell? ⟨W.heap.size, 2, none⟩ = some (.string o.rel) := by simp [World.cell?, za]
    have r0 : wz.cell? ⟨W.heap.size + 1, 0, none⟩ = some (.string ⟨#[]⟩) := by simp [World.cell?, zb]
    have r1 : wz.cell? ⟨W.heap.size + 1, 1, none⟩ = some (.slice none 0 0) := by simp [World.cell?, zb]
    have r2 : wz.cell? ⟨W.heap.size + 1, 2, none⟩ = some (.slice none 0 0) := by simp [World.cell?, zb]
    have rz : ∀ j, wz.frozen? ⟨W.heap.size + 1, j, none⟩ = false := fun j => by simp [World.frozen?, zb]
    have g2 := hstz.c2
    have gz := hstz.fz
    have hgn : gb ≠ W.heap.size + 1 := by omega
    have HBW := Lib.hid hbW; have HSTZ := Lib.hid hstz; have HRZ := Lib.hid hrz; have HZB := Lib.hid zb; have HA9 := Lib.hid a9
    have hzs : W.heap.size + 1 < wz.heap.size := (Array.getElem?_eq_some_iff.1 zb).1
    clear hbz hbW hstz hrz za zb a9
    by_cases hs : is = false ∨ d = 0
    · obtain rfl := HSTOP.out hs
      obtain ⟨hS1, hF1⟩ := HSTZ.out.less (left - 1)
      have hdone := res_done (R := W.heap.size + 1) (row := ⟨sNone, ⟨none, 0, 0⟩, ⟨none, 0, 0⟩⟩) (by omega) HST.out ((Fr.of_below HBW.out).trans hF1) hS1 (T := tNone) (left := left) (by
        have hn : tNone.natSize = 1 := by rw [LTree.natSize_eq]; rfl
        rcases Int.lt_or_le 0 left with h | h
        · exact .inl ⟨by rw [hn]; omega, by rw [hn]; omega, rfl, .nil _ _ _, .nil _ _ _⟩
        · exact .inr ⟨by rw [hn]; omega, by omega⟩)
      have HDN := Lib.hid hdone
      clear hdone hS1 hF1
      by_cases hi : is = false
      · subst hi
        go_wp2
        exact bodyPost_ret (v := TRow.val ⟨sNone, ⟨none, 0, 0⟩, ⟨none, 0, 0⟩⟩) (by simp [results, Tryz.results47, go_sem, r0, r1, r2, TRow.val, hgn, hgn.symm]; rfl) rfl ⟨_, _, rfl, HDN.out.1, HDN.out.2.1, HDN.out.2.2⟩
      · have hd0 : d = 0 := hs.resolve_left hi
        have hi2 : is = true := by simpa using hi
        subst hd0 hi2
        go_wp2
        exact bodyPost_ret (v := TRow.val ⟨sNone, ⟨none, 0, 0⟩, ⟨none, 0, 0⟩⟩) (by simp [results, Tryz.results47, go_sem, r0, r1, r2, TRow.val, hgn, hgn.symm]; rfl) rfl ⟨_, _, rfl, HDN.out.1, HDN.out.2.1, HDN.out.2.2⟩
    · have hi2 : is = true := by
        cases is with
        | true => rfl
        | false => exact absurd (.inl rfl) hs
      have hd0 : 0 < d := by
        rcases Nat.eq_zero_or_pos d with h | h
        · exact absurd (.inr h) hs
        · exact h
      have hdn : ¬ (d : Int) = 0 := by omega
      subst hi2
      have hcall := HE.out q hd0 (HGO.out q HQE.out rfl) wz _ HSTZ.out HRZ.out
      unfold exprVal at hcall
      have HC := Lib.hid hcall
      clear hcall hs
      go_wp2_with fail
      refine HC.out.mono ?_
      rintro r w3 ⟨row, left', rfl, hF3, hS3, hT3⟩
      have zb3 := (hF3.block _ hzs (by omega)).trans HZB.out
      have r0 : w3.cell? ⟨W.heap.size + 1, 0, none⟩ = some (.string ⟨#[]⟩) := by simp [World.cell?, zb3]
      have r1 : w3.cell? ⟨W.heap.size + 1, 1, none⟩ = some (.slice none 0 0) := by simp [World.cell?, zb3]
      have r2 : w3.cell? ⟨W.heap.size + 1, 2, none⟩ = some (.slice none 0 0) := by simp [World.cell?, zb3]
      have rz : ∀ j, w3.frozen? ⟨W.heap.size + 1, j, none⟩ = false := fun j => by simp [World.frozen?, zb3]
      have hdone := res_done (R := W.heap.size + 1) (by omega) HST.out ((Fr.of_below HBW.out).trans hF3) hS3 (hT3.mono fun b hb _ => by omega)
      have HDN := Lib.hid hdone
      clear hdone hF3 hS3 hT3 zb3 x0 x1 x2 x3 y0 y1 y2 g2 gz HC
      unfold TRow.val
      go_wp2
      exact bodyPost_ret (v := row.val) (by simp [results, Tryz.results47, go_sem, r0, r1, r2, TRow.val]) rfl ⟨row, left', rfl, HDN.out.1, HDN.out.2.1, HDN.out.2.2⟩

/-- The grower makes the tree, to any depth. -/
theorem grown_all {l : List LKind} {S : List LTuple} {gb fb mb : Nat} {ul : Value} (hsl : slimL l) (hS : S.length ≤ 1000000) : ∀ d : Nat, d ≤ 1000 → Grown l S gb fb mb ul d
  | 0, _ => fun o W left h0 hle hst => by
    have := grow_at (d := 0) hsl o W left h0 hle hst (fun e h => by omega)
    exact this
  | d + 1, hd => fun o W left h0 hle hst => by
    have hg : Grown l S gb fb mb ul d := grown_all hsl hS d (by omega)
    have := grow_at (d := d + 1) hsl o W left h0 hle hst (fun e _ hf W' u hst' hr => by
      have := grow_expr (by omega) hS hg e (find_slim hsl hf) W' left o u h0 hle hst' hr
      unfold ExprGoal at this
      rw [show growT l S (d + 1) o = growE (growT l S d) S o e by simp [growT, hf]]
      exact this)
    exact this
end Go.Proofs.YtnfkjodiielidaaGreatDoor

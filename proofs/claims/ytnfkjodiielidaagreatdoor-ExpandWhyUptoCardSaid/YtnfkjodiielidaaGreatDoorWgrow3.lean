/- How a tree grows: an expression: this. -/
import Derived.Test.YtnfkjodiielidaaGreatDoorWgrow2
import Derived.Deep.RegionHeld3
import Derived.Deep.RegionLaw
namespace Go.Proofs.YtnfkjodiielidaaGreatDoor
set_option linter.unusedVariables false
set_option linter.unusedSimpArgs false
open Go.RowKit

set_option maxRecDepth 100000 in
set_option maxHeartbeats 8000000 in
theorem expr_this {l : List LKind} {S : List LTuple} {gb fb mb : Nat} {ul : Value} {d : Nat} (hd : d ≤ 1000) (hS : S.length ≤ 1000000) (hg : Grown l S gb fb mb ul d) (e : LExpr) (hsl : e.slim = true) (ih2 : ∀ x, x ∈ e.parts → ExprOk l S gb fb mb ul d x) (c1 : ¬ e.op = sRel) (c2 : e.op = sThis) (W : World) (left : Int) (o : LUser) (u : Value) (hz : ¬ left = 0) (h0 : 0 ≤ left) (hle : left ≤ 1000000000000) (hst : GrSt W gb fb mb ul l S left) (hu : RepD (fun b => b ≠ gb) W (.slice 4 (e.parts.map LExpr.d)) u) : ExprGoal l S gb fb mb ul d e W left o u := by
  unfold ExprGoal
  have hm := LExpr.slim_len hsl
  obtain ⟨ua, uc, hf⟩ := hu.formM
  subst hf
  generalize hw0 : ((W.alloc (.cells #[.string e.op, .string e.name, .string e.of, .slice ua e.parts.length uc] 42)).alloc (.cells #[.string o.kind, .string o.id, .string o.rel] 25)).alloc (.cells #[.string ⟨#[]⟩, .slice none 0 0, .slice none 0 0] 32) = w0
  have hsz0 : w0.heap.size = W.heap.size + 1 + 1 + 1 := by rw [← hw0]; simp
  have hB0 : Below W.heap.size W w0 := by rw [← hw0]; exact (((Below.refl _ W).alloc (Nat.le_refl _) _).alloc (by simp) _).alloc (by simp; omega) _
  have hX : ExB W w0 e ua uc o := by
    have a0 : w0.heap[W.heap.size]? = some (.cells #[.string e.op, .string e.name, .string e.of, .slice ua e.parts.length uc] 42) := by rw [← hw0]; exact (Below.heap_alloc _ _ _ (by simp; omega)).trans ((Below.heap_alloc _ _ _ (by simp)).trans (heap_alloc_at rfl))
    have a1 : w0.heap[W.heap.size + 1]? = some (.cells #[.string o.kind, .string o.id, .string o.rel] 25) := by rw [← hw0]; exact (Below.heap_alloc _ _ _ (by simp)).trans (heap_alloc_at (by simp))
    have a2 : w0.heap[W.heap.size + 1 + 1]? = some (.cells #[.string ⟨#[]⟩, .slice none 0 0, .slice none 0 0] 32) := by rw [← hw0]; exact heap_alloc_at (by simp)
    refine ⟨⟨?_, ?_, ?_, ?_⟩, ⟨?_, ?_, ?_⟩, a2⟩ <;> simp [World.cell?, a0, a1]
  have hst0 := hst.next hB0
  have hgW := hst.lt
  obtain ⟨l1, l2, l3, l4, l5, l6, _⟩ := word_lists
  have hge := growE_eq (growT l S d) S o e
  generalize hT : growE (growT l S d) S o e = T at *
  have HG := Lib.hid hg; have HST := Lib.hid hst; have HST0 := Lib.hid hst0; have HX := Lib.hid hX; have HB0 := Lib.hid hB0; have HU := Lib.hid hu; have HIH := Lib.hid ih2
  clear hg hst hst0 hX hu ih2 hB0 hT
  unfold exprVal
  rw [if_neg c1] at hge
  obtain ⟨a1, b1⟩ := word_no c1
  rw [l2] at a1 b1
  obtain ⟨x0, x1, x2, x3⟩ := HX.out.es
  obtain ⟨y0, y1, y2⟩ := HX.out.os
  have g0 := HST0.out.c0
  have g1 := HST0.out.c1
  have g2 := HST0.out.c2
  have gz := HST0.out.fz
  obtain ⟨hS1, hF1⟩ := HST0.out.less (left - 1)
  have hX1 := HX.out.fr hF1 (by omega) (by omega) (by omega)
  have hgn : gb ≠ W.heap.size ∧ gb ≠ W.heap.size + 1 ∧ gb ≠ W.heap.size + 1 + 1 := by omega
  have HS1 := Lib.hid hS1; have HF1 := Lib.hid hF1; have HX1 := Lib.hid hX1
  clear hS1 hF1 hX1
  have hrs := HX.out.rs
  have r0 : w0.cell? ⟨W.heap.size + 1 + 1, 0, none⟩ = some (.string ⟨#[]⟩) := by simp [World.cell?, hrs]
  have r1 : w0.cell? ⟨W.heap.size + 1 + 1, 1, none⟩ = some (.slice none 0 0) := by simp [World.cell?, hrs]
  have r2 : w0.cell? ⟨W.heap.size + 1 + 1, 2, none⟩ = some (.slice none 0 0) := by simp [World.cell?, hrs]
  have rz : ∀ j, w0.frozen? ⟨W.heap.size + 1 + 1, j, none⟩ = false := fun j => by simp [World.frozen?, hrs]
  clear hrs
  have hFW1 : Fr (fun k => k = gb) W (w0.setCell ⟨gb, 2, none⟩ (.int .i64 (left - 1))) := (Fr.of_below HB0.out).trans HF1.out
  have HFW1 := Lib.hid hFW1
  clear hFW1
  have hpos : 0 < left := by omega
  have hnl : ¬ left - 1 < 0 := by omega
  have hi63 : left - 1 ≤ 1000000000000 := by omega
  obtain ⟨a2, b2⟩ := word_yes c2
  rw [l1] at a2 b2
  have hw1 : Below (w0.setCell ⟨gb, 2, none⟩ (.int .i64 (left - 1))).heap.size (w0.setCell ⟨gb, 2, none⟩ (.int .i64 (left - 1))) ((w0.setCell ⟨gb, 2, none⟩ (.int .i64 (left - 1))).alloc (.cells #[.string e.op, .slice none 0 0, .slice none 0 0] 32)) := (Below.refl _ _).alloc (Nat.le_refl _) _
  have hX2 := HX1.out.fr (Fr.of_below (M := fun _ => False) hw1) id id id
  have hS2 := HS1.out.next hw1
  have htb : ((w0.setCell ⟨gb, 2, none⟩ (.int .i64 (left - 1))).alloc (.cells #[.string e.op, .slice none 0 0, .slice none 0 0] 32)).heap[W.heap.size + 1 + 1 + 1]? = some (.cells #[.string e.op, .slice none 0 0, .slice none 0 0] 32) := heap_alloc_at (by rw [show (w0.setCell ⟨gb, 2, none⟩ (.int .i64 (left - 1))).heap.size = w0.heap.size from by simp [World.setCell], hsz0])
  have HX2 := Lib.hid hX2; have HS2 := Lib.hid hS2; have HTB := Lib.hid htb
  have hop : nodeOp e = sOr := by simp [nodeOp, c2]
  have hus : nodeUsers S o e = usersOf S o.kind o.id o.rel := by simp [nodeUsers, c2]
  have hnx : nodeNext S o e = (usersOf S o.kind o.id o.rel).filter fun u => !decide (u.rel = sEmpty) := by simp [nodeNext, c2]
  rw [hop, hus, hnx] at hge
  have hul : (usersOf S o.kind o.id o.rel).length ≤ 1000000 := by unfold usersOf; rw [List.length_map]; exact Nat.le_trans (List.length_filter_le _ _) (Nat.le_trans (canon_length_le _) hS)
  have hcu := fun W (h : GrSt W gb fb mb ul l S (left - 1)) => facts_Users h.facts (by omega) o.kind o.id o.rel
  generalize usersOf S o.kind o.id o.rel = Us at *
  have HCU := Lib.hid hcu; have HGE := Lib.hid hge
  clear hX2 hS2 htb hw1 hop hus hnx c2 hcu hge
  have hFW2 : Fr (fun k => k = gb) W ((w0.setCell ⟨gb, 2, none⟩ (.int .i64 (left - 1))).alloc (.cells #[.string e.op, .slice none 0 0, .slice none 0 0] 32)) := HFW1.out.trans (Fr.of_below ((Below.refl _ _).alloc (Nat.le_refl _) _))
  have HFW2 := Lib.hid hFW2
  clear hFW2
  go_enter Tryz.func91, Tryz.ntmps91
  go_wp2_with fail
  clear x0 x1 x2 x3 y0 y1 y2 g0 g1 g2 gz r0 r1 r2 rz HX1 HS1 HF1 HFW1
  generalize (w0.setCell ⟨gb, 2, none⟩ (.int .i64 (left - 1))).alloc (.cells #[.string e.op, .slice none 0 0, .slice none 0 0] 32) = w2 at *
  have hn3 : ¬ gb = W.heap.size + 1 + 1 + 1 := by omega
  have hn4 : ¬ W.heap.size + 1 + 1 + 1 = gb := by omega
  have hn5 : ¬ W.heap.size + 1 = W.heap.size + 1 + 1 + 1 := by omega
  have hn6 : ¬ W.heap.size + 1 + 1 + 1 = W.heap.size + 1 := by omega
  have ST := Lib.hid (show GrSt w2.drew gb fb mb ul l S (left - 1) ∧ ExB W w2.drew e ua uc o from ⟨HS2.out.next (Below.refl _ _).drew, HX2.out.fr (Fr.of_below (M := fun _ => False) (Below.refl _ _).drew) id id id⟩)
  go_region_held3 (fun W' => W'.cell? ⟨gb, 1, none⟩ = some (.pointer (some ⟨fb, 0, none⟩)) ∧ W'.cell? ⟨W.heap.size + 1, 0, none⟩ = some (.string o.kind) ∧ W'.cell? ⟨W.heap.size + 1, 1, none⟩ = some (.string o.id) ∧ W'.cell? ⟨W.heap.size + 1, 2, none⟩ = some (.string o.rel))
    (first | exact ⟨ST.out.1.c1, ST.out.2.os⟩ | (refine ⟨?_, ?_, ?_, ?_⟩ <;> (first | assumption | (rw [setCell_far (by omega)]; assumption) | (rw [setCell_far (by omega), setCell_far (by omega)]; assumption))))
    (first
      | (go_at_call 130; refine (HCU.out _ ST.out.1).mono ?_; rintro r w3 ⟨vu, rfl, hou, hb3⟩; obtain ⟨au, cu, rfl, _, _⟩ := hou.form; have ST3 := Lib.hid (And.intro (ST.out.1.next hb3) (ST.out.2.fr (Fr.of_below (M := fun _ => False) hb3) id id id)); have HOU := Lib.hid hou; have htb3 := (hb3.block (W.heap.size + 1 + 1 + 1) (Array.getElem?_eq_some_iff.1 HTB.out).1).trans HTB.out; have HB3 := Lib.hid hb3; clear ST hou hb3; have ST := ST3; clear ST3; have t0 : w3.cell? ⟨W.heap.size + 1 + 1 + 1, 0, none⟩ = some (.string e.op) := (by simp [World.cell?, htb3]); have t1 : w3.cell? ⟨W.heap.size + 1 + 1 + 1, 1, none⟩ = some (.slice none 0 0) := (by simp [World.cell?, htb3]); have tz : ∀ j, w3.frozen? ⟨W.heap.size + 1 + 1 + 1, j, none⟩ = false := (fun j => by simp [World.frozen?, htb3]); have HT3 := Lib.hid htb3; clear htb3; have q1 := ST.out.1.c1; obtain ⟨q2, q3, q4⟩ := ST.out.2.os))
  all_goals
    have hgwl := HST.out.lt
    have hbase : W.heap.size + 1 + 1 + 1 + 1 ≤ w2.heap.size := (Array.getElem?_eq_some_iff.1 HTB.out).1
    have hTr0 : TrSt W w3 e ua uc o gb fb mb ul l S (left - 1) e.op ⟨none, 0, 0⟩ [] ⟨none, 0, 0⟩ w3.heap.size := ⟨ST.out.1, ST.out.2, (HFW2.out.trans (Fr.of_below (Below.refl _ _).drew)).trans (Fr.of_below HB3.out), HT3.out, .nil _ _ _, Nat.le_trans hbase HB3.out.size, Nat.le_refl _⟩
    have hTr := hTr0.put HST.out [.string sOr, .slice au Us.length cu] 0 (op' := sOr) (us' := ⟨au, Us.length, cu⟩) (ps' := ⟨none, 0, 0⟩) (Us' := Us) rfl ((HOU.out.users (A := fun b => W.heap.size + 1 + 1 + 1 + 1 ≤ b) (fun b hb => Nat.le_trans hbase hb) (by omega)).mono fun b hb hlt => ⟨hb, hlt⟩)
    have hou5 := HOU.out.fr (fr_setCells (g := W.heap.size + 1 + 1 + 1) [.string sOr, .slice au Us.length cu] 0 w3) (fun k hk e => by have h1 := (OwnL.block HOU.out k hk).1; have h2 : w2.heap.size ≤ k := h1; omega)
    have HTR := Lib.hid hTr; have HOU5 := Lib.hid hou5
    clear hTr0 hTr hou5 HOU HT3 HB3 ST t0 t1 tz q1 q2 q3 q4 HTB HS2 HX2 HFW2
    change Exit.then _ _ _ _ (w3.setCells (W.heap.size + 1 + 1 + 1) 0 [.string sOr, .slice au Us.length cu])
    generalize w3.setCells (W.heap.size + 1 + 1 + 1) 0 [.string sOr, .slice au Us.length cu] = w5 at *
    obtain ⟨⟨t0, t1, t2⟩, tz⟩ := HTR.out.cells
    have hcl := clone_users HOU5.out (by omega)
    have HCL := Lib.hid hcl
    clear hcl
    go_wp2_with fail
    refine HCL.out.mono ?_
    rintro r w6 ⟨vc, rfl, hoc, hb6⟩
    have HTR7 := Lib.hid (HTR.out.next (Wm := w6) hgwl hb6)
    have hdel := delete_users hoc hb6.size (by omega) 133 (fun u => decide (u.rel = sEmpty)) (fun u W' => expr1 u W') (enters_of Tryz.func133 (by kernel_rfl) rfl)
    have HDEL := Lib.hid hdel
    clear hdel hoc t0 t1 t2 tz HOU5 HCL HTR7
    go_wp2_with fail
    refine HDEL.out.mono ?_
    rintro r w7 ⟨vn, rfl, hon, hb7⟩
    have HTR7 := Lib.hid (HTR.out.next (Wm := w7) hgwl (hb6.trans hb7))
    have hnlen : (Us.filter fun u => !decide (u.rel = sEmpty)).length ≤ 1000000 := Nat.le_trans (List.length_filter_le _ _) hul
    have h5 := HTR.out.size
    have hrepn : RepD (fun b => b ≠ gb) w7 (.slice 3 ((Us.filter fun u => !decide (u.rel = sEmpty)).map LUser.d)) vn := hon.users (fun b hb => by omega) (by omega)
    clear hon hb7 HTR HDEL hb6
    generalize hNX : (Us.filter fun u => !decide (u.rel = sEmpty)) = nx at *
    -- TAIL
    have hpa := grow_parts HG.out (show (0 : Int) ≤ left - 1 by omega) (by omega) HTR7.out.gr hrepn hnlen
    have HPA := Lib.hid hpa
    clear hpa hrepn
    go_wp2_with fail
    refine HPA.out.mono ?_
    rintro r w8 ⟨vp, rows, lk, rfl, hF8, hS8, hO8, hrl, hOut8⟩
    obtain ⟨ap, cp, rfl, _⟩ := hO8.form
    have hw7 : w3.heap.size ≤ w7.heap.size := HTR7.out.xhi
    have hxlo : W.heap.size + 1 + 1 + 1 + 1 ≤ w3.heap.size := HTR7.out.xlo
    have hTr8 := HTR7.out.grown hgwl hF8 hS8
    have hTr9 := hTr8.put HST.out [.slice ap rows.length cp] 2 (op' := sOr) (us' := ⟨au, Us.length, cu⟩) (ps' := ⟨ap, rows.length, cp⟩) (Us' := Us) rfl hTr8.us
    have hFp := fr_setCells (g := W.heap.size + 1 + 1 + 1) [.slice ap rows.length cp] 2 w8
    have hO9 : OwnL (w8.setCells (W.heap.size + 1 + 1 + 1) 2 [.slice ap rows.length cp]) w3.heap.size 32 3 TRow.cells (.slice ap rows.length cp) rows := (hO8.rebase hw7).fr hFp (fun k hk e => by have := (OwnL.block hO8 k hk).1; omega)
    have hOut9 : OutL (fun b => w3.heap.size ≤ b ∧ (Value.slice ap rows.length cp).ownBlock ≠ some b) (w8.setCells (W.heap.size + 1 + 1 + 1) 2 [.slice ap rows.length cp]) (nx.map (growT l S d) ++ (e.parts.take 0).map (growE (growT l S d) S o)) (left - 1) lk rows := by
      rw [List.take_zero, List.map_nil, List.append_nil]
      rcases hOut8 with ⟨q1, q2, q3⟩ | q
      · exact .inl ⟨q1, q2, (q3.keep fun b hb hlt => hFp.block b hlt (by have := hb.1; omega)).mono fun b hb _ => ⟨by have := hb.1; omega, hb.2⟩⟩
      · exact .inr q
    have HTR9 := Lib.hid hTr9; have HO9 := Lib.hid hO9; have HOut9 := Lib.hid hOut9
    obtain ⟨⟨t0, t1, t2⟩, tz⟩ := hTr8.cells
    obtain ⟨x0, x1, x2, x3⟩ := hTr8.ex.es
    clear hF8 hS8 hO8 hOut8 hTr8 hTr9 hFp hO9 hOut9 HPA HTR7
    go_wp2_with fail
    change Code.wp _ _ _ _ (w8.setCells (W.heap.size + 1 + 1 + 1) 2 [.slice ap rows.length cp])
    clear t0 t1 t2 tz x0 x1 x2 x3
    generalize w8.setCells (W.heap.size + 1 + 1 + 1) 2 [.slice ap rows.length cp] = w9 at *
    go_loopw [14, 108] (fun _ i wr => ∃ (k : Nat) (rows : List TRow) (lk : Int) (ps : SlV), k ≤ e.parts.length ∧ i = .int .i64 k ∧ rows.length ≤ nx.length + k ∧ Aside (TrSt W wr e ua uc o gb fb mb ul l S lk sOr ⟨au, Us.length, cu⟩ Us ps w3.heap.size) ∧ Aside (OwnL wr w3.heap.size 32 3 TRow.cells (.slice ps.a ps.n ps.c) rows) ∧
        Aside (OutL (fun b => w3.heap.size ≤ b ∧ (Value.slice ps.a ps.n ps.c).ownBlock ≠ some b) wr (nx.map (growT l S d) ++ (e.parts.take k).map (growE (growT l S d) S o)) (left - 1) lk rows)) (fun _ i _ => e.parts.length - (intOf i).toNat)
    case atStart => exact ⟨0, rows, lk, ⟨ap, rows.length, cp⟩, by omega, rfl, by omega, ⟨HTR9.out⟩, ⟨HO9.out⟩, ⟨HOut9.out⟩⟩
    case round =>
      obtain ⟨k, rows, lk, ps, hk, rfl, hrl, hTr, hO, hOut⟩ := hrel
      have hsz := hTr.out.size
      have hlkle : lk ≤ left - 1 := by
        rcases hOut.out with ⟨q1, q2, _⟩ | ⟨q1, q2⟩
        · have : (0 : Int) ≤ (sumT (nx.map (growT l S d) ++ (e.parts.take k).map (growE (growT l S d) S o)) : Int) := by omega
          omega
        · omega
      by_cases hlt : k < e.parts.length
      · have hUw := HU.out.fr hTr.out.fr (fun b hb => hb)
        obtain ⟨a', c', us', hv', _, hkc, hkr⟩ := hUw.exprsCs
        injection hv' with e1 e2 e3
        obtain ⟨b, off, hab, e0', e1', e2', e3'⟩ := hkc k hlt
        rw [hab] at e1
        subst e1 e3
        have hrp := hkr k hlt
        obtain ⟨pa, pc, hpf⟩ := hrp.formM
        simp only [exprCs, hpf] at e0' e1' e2' e3'
        rw [hpf] at hrp
        have hgd : e.parts.getD k e0 = e.parts[k] := getD_at hlt
        rw [hgd] at e0' e1' e2' e3' hrp
        have hstep : nx.map (growT l S d) ++ (e.parts.take (k + 1)).map (growE (growT l S d) S o) = (nx.map (growT l S d) ++ (e.parts.take k).map (growE (growT l S d) S o)) ++ [growE (growT l S d) S o e.parts[k]] := by rw [List.take_succ_eq_append_getElem hlt, List.map_append, List.append_assoc]; rfl
        have hcall := fun W' (hW' : GrSt W' gb fb mb ul l S lk) (hlk : 0 ≤ lk) (hr : RepD (fun b => b ≠ gb) W' (.slice 4 (e.parts[k].parts.map LExpr.d)) (.slice pa e.parts[k].parts.length pc)) => HIH.out e.parts[k] (List.getElem_mem hlt) W' lk o _ hlk (by omega) hW' hr
        unfold ExprGoal at hcall
        have hn1 : 1 ≤ (growE (growT l S d) S o e.parts[k]).natSize := natSize_pos _
        generalize nx.map (growT l S d) ++ (e.parts.take k).map (growE (growT l S d) S o) = ts at *
        generalize growE (growT l S d) S o e.parts[k] = t at *
        rw [hgd] at hpf
        generalize e.parts[k] = q at *
        unfold exprVal at hcall
        have HC := Lib.hid hcall; have HSTP := Lib.hid hstep; have HRP := Lib.hid hrp
        have HTR := Lib.hid hTr.out; have HOW := Lib.hid hO.out; have HOUT := Lib.hid hOut.out
        clear hcall hstep hrp hkc hkr hUw hgd hpf hTr hO hOut hab
        have g2 := HTR.out.gr.c2
        have hglt := HTR.out.gr.lt
        by_cases hlk : 0 ≤ lk
        · have hnlk : ¬ lk < 0 := by omega
          have hb14 : Below wr.heap.size wr ((wr.alloc (.cells #[.string q.op, .string q.name, .string q.of, .slice pa q.parts.length pc] 42)).drew) := ((Below.refl _ _).alloc (Nat.le_refl _) _).drew
          have a14 : ((wr.alloc (.cells #[.string q.op, .string q.name, .string q.of, .slice pa q.parts.length pc] 42)).drew).heap[wr.heap.size]? = some (.cells #[.string q.op, .string q.name, .string q.of, .slice pa q.parts.length pc] 42) := heap_alloc_at rfl
          have HB14 := Lib.hid hb14; have HA14 := Lib.hid a14
          clear hb14 a14
          go_wp2_with fail
          generalize wr.alloc (.cells #[.string q.op, .string q.name, .string q.of, .slice pa q.parts.length pc] 42) = w1 at *
          clear e0' e1' e2' e3' g2
          have hTrA := HTR.out.next hgwl HB14.out
          have hOA := HOW.out.below HB14.out
          have hcl := HC.out _ hTrA.gr hlk (HRP.out.old HB14.out)
          have a14 := HA14.out
          have hsh : (fun W' : World => W'.cell? ⟨wr.heap.size, 0, none⟩ = some (.string q.op) ∧ W'.cell? ⟨wr.heap.size, 1, none⟩ = some (.string q.name) ∧ W'.cell? ⟨wr.heap.size, 2, none⟩ = some (.string q.of) ∧ W'.cell? ⟨wr.heap.size, 3, none⟩ = some (.slice pa q.parts.length pc) ∧ W'.cell? ⟨W.heap.size + 1, 0, none⟩ = some (.string o.kind) ∧ W'.cell? ⟨W.heap.size + 1, 1, none⟩ = some (.string o.id) ∧ W'.cell? ⟨W.heap.size + 1, 2, none⟩ = some (.string o.rel)) w1.drew := ⟨by simp [World.cell?, a14], by simp [World.cell?, a14], by simp [World.cell?, a14], by simp [World.cell?, a14], hTrA.ex.os⟩
          have hszr := HTR.out.xhi
          have hkeep : ∀ (M : Nat → Prop) (wa wb : World), Fr M wa wb → ¬ M wr.heap.size → ¬ M (W.heap.size + 1) →
              (fun W' : World => W'.cell? ⟨wr.heap.size, 0, none⟩ = some (.string q.op) ∧ W'.cell? ⟨wr.heap.size, 1, none⟩ = some (.string q.name) ∧ W'.cell? ⟨wr.heap.size, 2, none⟩ = some (.string q.of) ∧ W'.cell? ⟨wr.heap.size, 3, none⟩ = some (.slice pa q.parts.length pc) ∧ W'.cell? ⟨W.heap.size + 1, 0, none⟩ = some (.string o.kind) ∧ W'.cell? ⟨W.heap.size + 1, 1, none⟩ = some (.string o.id) ∧ W'.cell? ⟨W.heap.size + 1, 2, none⟩ = some (.string o.rel)) wa →
              (fun W' : World => W'.cell? ⟨wr.heap.size, 0, none⟩ = some (.string q.op) ∧ W'.cell? ⟨wr.heap.size, 1, none⟩ = some (.string q.name) ∧ W'.cell? ⟨wr.heap.size, 2, none⟩ = some (.string q.of) ∧ W'.cell? ⟨wr.heap.size, 3, none⟩ = some (.slice pa q.parts.length pc) ∧ W'.cell? ⟨W.heap.size + 1, 0, none⟩ = some (.string o.kind) ∧ W'.cell? ⟨W.heap.size + 1, 1, none⟩ = some (.string o.id) ∧ W'.cell? ⟨W.heap.size + 1, 2, none⟩ = some (.string o.rel)) wb := by
            rintro M wa wb hF m1 m2 ⟨z1, z2, z3, z4, z5, z6, z7⟩
            have l1 : wr.heap.size < wa.heap.size := World.block_lt_of_cell? _ _ z1
            have l2 : W.heap.size + 1 < wa.heap.size := World.block_lt_of_cell? _ _ z5
            exact ⟨(hF.cell l1 m1).trans z1, (hF.cell l1 m1).trans z2, (hF.cell l1 m1).trans z3, (hF.cell l1 m1).trans z4, (hF.cell l2 m2).trans z5, (hF.cell l2 m2).trans z6, (hF.cell l2 m2).trans z7⟩
          obtain ⟨⟨_, _, t2⟩, _⟩ := hTrA.cells
          have HTRA := Lib.hid hTrA; have HOA := Lib.hid hOA; have HCL := Lib.hid hcl; have SH := Lib.hid hsh; have HKP := Lib.hid hkeep
          have hxl := HTR.out.xlo
          clear hTrA hOA hcl hsh a14 HA14 HC HRP hkeep
          have hz := SH.out
          dsimp only at hz
          obtain ⟨z1, z2, z3, z4, z5, z6, z7⟩ := hz
          go_region_law
            (first
              | (go_simp; go_at_call 91; refine HCL.out.mono ?_; rintro r w2 ⟨row, l2, rfl, hF2, hS2, hT2⟩; have hTr2 := HTRA.out.grown hgwl hF2 hS2; have hF3 := (Fr.of_below HB14.out).trans hF2; have SH2 := Lib.hid (HKP.out _ _ _ hF2 (by omega) (by omega) SH.out); have hO2 := HOA.out.fr hF2 (fun k hk e => by have := (OwnL.block HOW.out k hk).1; omega); have hTr3 := hTr2.next hgwl ((Below.refl w2.heap.size w2).alloc (Nat.le_refl _) (.cells #[.string row.op, .slice row.us.a row.us.n row.us.c, .slice row.ps.a row.ps.n row.ps.c] 32)); obtain ⟨⟨_, _, t4⟩, _⟩ := hTr3.cells; have hT3 := (OutT.keep (hT2.mono (A' := fun b => wr.heap.size ≤ b ∧ b < w2.heap.size) fun b hb hlt => by have := HB14.out.size; exact ⟨by omega, hlt⟩) (W' := w2.alloc (.cells #[.string row.op, .slice row.us.a row.us.n row.us.c, .slice row.ps.a row.ps.n row.ps.c] 32)) (fun b hb _ => Below.heap_alloc _ _ _ hb.2)).mono (A' := fun b => wr.heap.size ≤ b) fun b hb _ => hb.1; have HF3 := Lib.hid (hF3.trans (Fr.of_below ((Below.refl w2.heap.size w2).alloc (Nat.le_refl _) (.cells #[.string row.op, .slice row.us.a row.us.n row.us.c, .slice row.ps.a row.ps.n row.ps.c] 32)))); have HO3 := Lib.hid (hO2.below ((Below.refl w2.heap.size w2).alloc (Nat.le_refl _) (.cells #[.string row.op, .slice row.us.a row.us.n row.us.c, .slice row.ps.a row.ps.n row.ps.c] 32))); have HTR3 := Lib.hid hTr3; have HT3 := Lib.hid hT3; obtain ⟨⟨_, _, t3⟩, _⟩ := hTr2.cells; clear SH hF2 hS2 hT2 hF3 hO2 hTr2 hTr3 hT3; have SH := SH2; clear SH2; unfold TRow.val; first | done | skip; try go_wp2_with fail)
              | (have hxx : w3.heap.size ≤ (w2.alloc (.cells #[.string row.op, .slice row.us.a row.us.n row.us.c, .slice row.ps.a row.ps.n row.ps.c] 32)).heap.size := HTR3.out.xhi; refine step_app1 w3.heap.size rfl _ _ _ 32 _ 3 64 rfl Tryz.underlying30 info_tree rfl (by omega) (by omega) TRow.cells TRow.len TRow.one (.slice ps.a ps.n ps.c) rows row rfl (N := w2.heap.size) rfl (heap_alloc_at rfl) HO3.out hxx (by omega) ?_; intro a1 c1 w4 hO4 hF4; have hM4 : ∀ b, (Value.slice ps.a ps.n ps.c).ownBlock = some b → w3.heap.size ≤ b := fun b hb => (OwnL.block HOW.out b hb).1; have SH4 := Lib.hid (HKP.out _ _ _ hF4.1 (fun hm => by have := (OwnL.block HOW.out _ hm).2; omega) (fun hm => by have := hM4 _ hm; omega) (HKP.out (fun _ => False) _ _ (Fr.of_below ((Below.refl _ _).alloc (Nat.le_refl _) _)) id id SH.out)); have hTr4 := HTR3.out.own HST.out hF4.1 hM4; obtain ⟨⟨_, _, t5⟩, tz5⟩ := hTr4.cells; have HTR4 := Lib.hid hTr4; have HF4 := Lib.hid hF4; have HO4 := Lib.hid hO4; clear SH hTr4 hF4 hO4 hM4 hxx; have SH := SH4; clear SH4))
          all_goals
            have hTr5 := HTR4.out.put HST.out [.slice a1 (rows.length + 1) c1] 2 (op' := sOr) (us' := ⟨au, Us.length, cu⟩) (ps' := ⟨a1, rows.length + 1, c1⟩) (Us' := Us) rfl HTR4.out.us
            have hFp := fr_setCells (g := W.heap.size + 1 + 1 + 1) [.slice a1 (rows.length + 1) c1] 2 w4
            have hO5 : OwnL (w4.setCells (W.heap.size + 1 + 1 + 1) 2 [.slice a1 (rows.length + 1) c1]) w3.heap.size 32 3 TRow.cells (.slice a1 (rows.length + 1) c1) (rows ++ [row]) := HO4.out.fr hFp (fun k hk e => by have := (OwnL.block HO4.out k hk).1; omega)
            have hOut5 := (out_snoc hlk (fun k hk => OwnL.block HOW.out k hk) (show gb < w3.heap.size by omega) hszr HOUT.out HF3.out HT3.out HF4.out.1 HF4.out.2).keep (W' := w4.setCells (W.heap.size + 1 + 1 + 1) 2 [.slice a1 (rows.length + 1) c1]) (fun b hb hlt => hFp.block b hlt (by have := hb.1; omega))
            have HTR5 := Lib.hid hTr5; have HO5 := Lib.hid hO5; have HOut5 := Lib.hid hOut5
            clear hTr5 hO5 hOut5 hFp HTR4 HO4 HF4 HO3 HTR3 HT3 HF3 SH HKP HCL HTRA HOA HOUT HOW HTR HB14
            change Exit.inBlock _ _ _ _ (w4.setCells (W.heap.size + 1 + 1 + 1) 2 [.slice a1 (rows.length + 1) c1])
            generalize w4.setCells (W.heap.size + 1 + 1 + 1) 2 [.slice a1 (rows.length + 1) c1] = w5 at *
            go_wp2
            first
              | exact ⟨⟨k + 1, rows ++ [row], l2, ⟨a1, rows.length + 1, c1⟩, by omega, by go_num, by simp; omega, ⟨HTR5.out⟩, ⟨HO5.out⟩, ⟨by rw [HSTP.out]; exact HOut5.out⟩⟩, by simp [intOf] <;> omega⟩
              | (go_roundw
                 case rel => exact ⟨k + 1, rows ++ [row], l2, ⟨a1, rows.length + 1, c1⟩, by omega, by go_num, by simp; omega, ⟨HTR5.out⟩, ⟨HO5.out⟩, ⟨by rw [HSTP.out]; exact HOut5.out⟩⟩
                 case measure => simp [intOf]; omega)
        · have hnlk : lk < 0 := by omega
          have hwb : Below wr.heap.size wr (wr.alloc (.cells #[.string q.op, .string q.name, .string q.of, .slice pa q.parts.length pc] 42)) := (Below.refl _ _).alloc (Nat.le_refl _) _
          have hTr2 := HTR.out.next hgwl hwb
          have hO2 := HOW.out.below hwb
          have hOut2 : OutL (fun b => w3.heap.size ≤ b ∧ (Value.slice ps.a ps.n ps.c).ownBlock ≠ some b) (wr.alloc (.cells #[.string q.op, .string q.name, .string q.of, .slice pa q.parts.length pc] 42)) (ts ++ [t]) (left - 1) lk rows := by
            rcases HOUT.out with ⟨h1, h2, _⟩ | ⟨h1, h2⟩
            · omega
            · exact .inr ⟨by rw [sumT_snoc]; omega, h2⟩
          have HT2 := Lib.hid hTr2; have HO2 := Lib.hid hO2; have HOut2 := Lib.hid hOut2
          clear hTr2 hO2 hOut2 hwb HC
          go_wp2
          first
            | exact ⟨⟨k + 1, rows, lk, ps, by omega, by go_num, by omega, ⟨HT2.out⟩, ⟨HO2.out⟩, ⟨by rw [HSTP.out]; exact HOut2.out⟩⟩, by simp [intOf] <;> omega⟩
            | (go_roundw
               case rel => exact ⟨k + 1, rows, lk, ps, by omega, by go_num, by omega, ⟨HT2.out⟩, ⟨HO2.out⟩, ⟨by rw [HSTP.out]; exact HOut2.out⟩⟩
               case measure => simp [intOf]; omega)
      · have hkn : e.parts.take k = e.parts := List.take_of_length_le (by omega)
        have hOut2 := hOut.out
        rw [hkn] at hOut2
        obtain ⟨⟨t0, t1, t2⟩, tz⟩ := hTr.out.cells
        have hrs := hTr.out.ex.rs
        have r0 : wr.cell? ⟨W.heap.size + 1 + 1, 0, none⟩ = some (.string ⟨#[]⟩) := by simp [World.cell?, hrs]
        have r1 : wr.cell? ⟨W.heap.size + 1 + 1, 1, none⟩ = some (.slice none 0 0) := by simp [World.cell?, hrs]
        have r2 : wr.cell? ⟨W.heap.size + 1 + 1, 2, none⟩ = some (.slice none 0 0) := by simp [World.cell?, hrs]
        have rz : ∀ j, wr.frozen? ⟨W.heap.size + 1 + 1, j, none⟩ = false := fun j => by simp [World.frozen?, hrs]
        have hOT : OutT (fun b => W.heap.size + 1 + 1 + 1 ≤ b) wr T left lk ⟨sOr, ⟨au, Us.length, cu⟩, ps⟩ := by
          have hTn : T.natSize = sumT (nx.map (growT l S d) ++ e.parts.map (growE (growT l S d) S o)) + 1 := by rw [HGE.out, LTree.natSize_eq]; rfl
          rcases hOut2 with ⟨q1, q2, q3⟩ | ⟨q1, q2⟩
          · refine .inl ⟨by omega, by omega, ?_⟩
            rw [HGE.out]
            refine ⟨rfl, hTr.out.us.mono fun b hb _ => by have := hb.1; omega, ?_⟩
            exact (q3.mono fun b hb _ => by have := hb.1; have := hTr.out.xlo; omega).rep hO.out (fun b hb _ => by have := hTr.out.xlo; omega) (by omega)
          · exact .inr ⟨by omega, q2⟩
        have hdone := ex_done (e := e) (ua := ua) (uc := uc) (o := o) HST.out hTr.out.fr hTr.out.gr hOT
        have HDN := Lib.hid hdone
        clear hdone hOT hOut2 hkn hrs hTr hO hOut
        go_wp2
        refine bodyPost_ret (v := TRow.val ⟨sOr, ⟨au, Us.length, cu⟩, ps⟩) (by simp [results, Tryz.results91, go_sem, r0, r1, r2, TRow.val]) rfl ?_
        first
          | exact ⟨⟨sOr, ⟨au, Us.length, cu⟩, ps⟩, rfl, HDN.out.1, lk, HDN.out.2.1, HDN.out.2.2⟩
          | exact ⟨⟨sOr, ⟨au, Us.length, cu⟩, ps⟩, lk, rfl, HDN.out.1, HDN.out.2.1, HDN.out.2.2⟩
end Go.Proofs.YtnfkjodiielidaaGreatDoor

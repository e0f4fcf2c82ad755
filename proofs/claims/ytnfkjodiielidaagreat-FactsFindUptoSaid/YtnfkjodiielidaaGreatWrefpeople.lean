/- The document's layer 13: the users that tuples name. -/
import Derived.Test.YtnfkjodiielidaaGreatWref01
import Derived.Test.YtnfkjodiielidaaGreatWpeople
import Derived.Test.YtnfkjodiielidaaGreatPins
import Derived.Test.YtnfkjodiielidaaGreatAppin
import Derived.Test.YtnfkjodiielidaaGreatWref11
namespace Go.Proofs.YtnfkjodiielidaaGreat
set_option linter.unusedVariables false
set_option linter.unusedSimpArgs false
open Go.RowKit

theorem ref_SameS_aux : True := trivial
set_option maxRecDepth 100000 in
set_option maxHeartbeats 2000000 in
theorem ref_SameS {A B : Nat → Prop} {w : World} {xs ys : List ByteArray} {u v : Value} (hu : RepD A w (.slice 1 (xs.map fun s => [.str s])) u) (hv : RepD B w (.slice 1 (ys.map fun s => [.str s])) v) :
    Calls Tryz.prog 14 #[u, v] w fun e w' => e = .returned (.bool (decide (xs = ys))) ∧ Below w.heap.size w w' := by
  have mixed : Tryz.prog.follows Departure.mixedOrders = true := by kernel_rfl
  obtain ⟨a, c, rfl, _, hl, hk⟩ := hu.strs
  obtain ⟨a', c', rfl, _, hl', hk'⟩ := hv.strs
  have HK := Lib.hid hk; have HK' := Lib.hid hk'; clear hk hk' hu hv
  by_cases hn : xs.length = ys.length
  · generalize hr : decide (xs = ys) = r
    have HR := Lib.hid hr; clear hr
    rw [← hn]
    go_enter Tryz.func14, Tryz.ntmps14
    go_wp2
    go_loopw [5] (fun i wr => ∃ k : Nat, k ≤ xs.length ∧ i = .int .i64 k ∧ Below w.heap.size w wr ∧ Aside (xs.take k = ys.take k)) (fun i _ => xs.length - (intOf i).toNat)
    case atStart => exact ⟨0, by omega, rfl, Below.refl _ _, ⟨rfl⟩⟩
    case round =>
      obtain ⟨k, hk, rfl, hB, hF⟩ := hrel
      by_cases hlt : k < xs.length
      · obtain ⟨b, off, rfl, _, e0⟩ := HK.out k hlt
        obtain ⟨b', off', rfl, _, d0⟩ := HK'.out k (by omega)
        have hbl : b < w.heap.size := World.block_lt_of_cell? w _ e0
        have hbl' : b' < w.heap.size := World.block_lt_of_cell? w _ d0
        rw [← hB.cell (by exact hbl)] at e0
        rw [← hB.cell (by exact hbl')] at d0
        have hx : xs.take (k + 1) = xs.take k ++ [xs[k]] := List.take_succ_eq_append_getElem hlt
        have hy : ys.take (k + 1) = ys.take k ++ [ys[k]'(by omega)] := List.take_succ_eq_append_getElem (by omega)
        have HX := Lib.hid hx; have HY := Lib.hid hy; clear hx hy
        have hnx : xs[k] ≠ ys[k]'(by omega) → xs ≠ ys := fun h e => h (by subst e; rfl)
        have HN := Lib.hid hnx; clear hnx
        generalize xs[k] = x at *
        generalize ys[k]'(by omega) = y at *
        by_cases hxy : x = y
        · subst hxy
          clear HN
          go_wp2_with fail
          go_region_o
          go_wp2
          go_roundw
          case rel => exact ⟨k + 1, by omega, by go_num, hB.drew, ⟨by rw [HX.out, HY.out, hF.out]⟩⟩
          case measure => simp [intOf]; omega
        · have hf : false = r := by rw [← HR.out]; simp [HN.out hxy]
          have HF := Lib.hid hf
          have hne := toList_ne hxy
          have hne2 : (x.toList = y.toList) = False := by simp; exact fun e => hxy (bytes_toList_inj e)
          clear hf hxy HN
          go_wp2_with fail
          go_region_o
          go_wp2
          go_ret
          exact ⟨ret_bool HF.out, hB.drew⟩
      · have hkn : k = xs.length := by omega
        have ht : true = r := by
          rw [← HR.out]
          have := hF.out
          rw [hkn, List.take_of_length_le (Nat.le_refl _), hn, List.take_of_length_le (Nat.le_refl _)] at this
          simp [this]
        have HT := Lib.hid ht; clear ht hkn
        go_wp2
        go_ret
        exact ⟨ret_bool HT.out, hB⟩
  · have e : decide (xs = ys) = false := by simp; intro h; exact hn (by rw [h])
    rw [e]
    clear e
    have hni : ((xs.length : Int) = ys.length) = False := by simp; omega
    go_enter Tryz.func14, Tryz.ntmps14
    go_wp2
    go_ret
    exact ⟨rfl, Below.refl _ _⟩

theorem ref_partsU (u : LUser) (w : World) : Calls Tryz.prog 39 #[u.val] w fun r w' =>
    ∃ v, r = .returned v ∧ RepD (Past w) w' (.slice 1 (u.strs.map fun s => [.str s])) v ∧ Below w.heap.size w w' := by
  unfold LUser.val
  go_enter Tryz.func39, Tryz.ntmps39
  go_wp2
  go_ret
  refine ⟨_, rfl, ?_, ((Below.refl _ w).alloc (Nat.le_refl _) _).alloc (by simp) _⟩
  exact repS_of_block (ss := [u.kind, u.id, u.rel]) (T := 9) (fr := (0, 0)) (heap_alloc_at (by simp)) (by simp [Past]) (by simp)

/-- A user in its box; a list of the call's own that grows; lists of texts besides. -/
structure PeSt (w W : World) (u : LUser) (n : Value) (nl : List LUser) (A : List (Value × List ByteArray)) : Prop where
  below : Below (w.heap.size + 1) (w.alloc (.cells #[.string u.kind, .string u.id, .string u.rel] 24)) W
  own : OwnL W (w.heap.size + 1) 24 3 LUser.cells n nl
  reps : ∀ p, p ∈ A → RepD (fun _ => True) W (.slice 1 (p.2.map fun s => [.str s])) p.1
section
variable {w W W' : World} {u : LUser} {n : Value} {nl : List LUser} {A : List (Value × List ByteArray)}
theorem PeSt.size (h : PeSt w W u n nl A) : w.heap.size + 1 ≤ W.heap.size := by have := h.below.size; simpa using this
theorem PeSt.next (h : PeSt w W u n nl A) (hb : Below W.heap.size W W') : PeSt w W' u n nl A := ⟨h.below.trans (hb.mono h.size), h.own.below hb, fun p hp => (h.reps p hp).old hb⟩
theorem PeSt.old (h : PeSt w W u n nl A) : Below w.heap.size w W := ((Below.refl _ w).alloc (Nat.le_refl _) _).trans (h.below.mono (by omega))
theorem PeSt.bare (h : PeSt w W u n nl A) : PeSt w W u n nl [] := ⟨h.below, h.own, fun p hp => by cases hp⟩
theorem PeSt.cells (h : PeSt w W u n nl A) : W.cell? ⟨w.heap.size, 0, none⟩ = some (.string u.kind) ∧ W.cell? ⟨w.heap.size, 1, none⟩ = some (.string u.id) ∧ W.cell? ⟨w.heap.size, 2, none⟩ = some (.string u.rel) := by
  have hb : W.heap[w.heap.size]? = some (.cells #[.string u.kind, .string u.id, .string u.rel] 24) := (h.below.block w.heap.size (by simp)).trans (heap_alloc_at rfl)
  refine ⟨?_, ?_, ?_⟩ <;> simp [World.cell?, hb]
theorem wpList_appU {ops : Array Oper} {rest : List Oper} {o : Oper} {a : Act} {Q : Exit → Act → World → Prop} (h : PeSt w W u n nl A) (hgd : o.guard = none) (s x : Operand)
    (ho : o.op = .call { callee := .builtin .append, args := #[s, x], argTypes := #[36, 36] }) (y : LUser) (hs : a.eval s = n) {N : Nat} (hx : a.eval x = .slice (some ⟨N, 0, none⟩) 1 1) (hN : N = W.heap.size) (hl : nl.length ≤ 1000000)
    (k : ∀ v1 w1, PeSt w w1 u v1 (nl ++ [y]) [] → wpList Tryz.prog ops Q rest (a.put o.dst v1) w1) : wpList Tryz.prog ops Q (o :: rest) a (W.alloc (.cells y.cells.toArray 24)) :=
  wpList_app (w.heap.size + 1) hgd s x _ 24 _ 3 48 ho Tryz.underlying36 info_user rfl (by omega) (by omega) LUser.cells LUser.len LUser.one n nl y hs hx hN h.own h.size (by omega)
    fun v1 w1 hO hB _ => k v1 w1 ⟨h.below.trans hB, hO, fun p hp => by cases hp⟩
theorem pe_parts (h : PeSt w W u n nl A) (a b c : ByteArray) : Calls Tryz.prog 39 #[.agg #[.string a, .string b, .string c]] W fun r W' => ∃ v, r = .returned v ∧ PeSt w W' u n nl ((v, [a, b, c]) :: A) ∧ Below W.heap.size W W' := by
  refine (ref_partsU ⟨a, b, c⟩ W).mono ?_
  rintro r W' ⟨v, rfl, hr, hb⟩
  refine ⟨v, rfl, ⟨(h.next hb).below, (h.next hb).own, fun p hp => ?_⟩, hb⟩
  rcases List.mem_cons.1 hp with rfl | hp
  · exact hr.mono fun _ _ _ => trivial
  · exact (h.reps p hp).old hb
theorem pe_Less (h : PeSt w W u n nl A) {x y : LUser} {p q : Value} (hu : (p, x.strs) ∈ A) (hv : (q, y.strs) ∈ A) (hx : ∀ s, s ∈ x.strs → s.size ≤ 300) {r : Bool} (hr : uLess x y = r) : Calls Tryz.prog 38 #[p, q] W fun e W' => e = .returned (.bool r) ∧ PeSt w W' u n nl A ∧ Below W.heap.size W W' := by
  subst hr
  refine (ref_LessL (h.reps _ hu) (h.reps _ hv) hx).mono ?_
  rintro r W' ⟨rfl, hb⟩
  exact ⟨rfl, h.next hb, hb⟩
end
theorem own_place' {α : Type} {enc : α → List Value} {k : Nat} {w : World} {base : Nat} {e : TypeId} {a : Option Addr} {n c : Nat} {xs : List α} (h : OwnL w base e k enc (.slice a n c) xs) (h0 : 0 < xs.length) : ∃ b, a = some ⟨b, 0, none⟩ := by
  rcases h.2 with ⟨_, h1⟩ | ⟨g, cap, cur, hn, _⟩
  · omega
  · injection hn with e1
    exact ⟨g, e1⟩
theorem own_cells3 {w : World} {base b n c : Nat} {e : TypeId} {xs : List LUser} (h : OwnL w base e 3 LUser.cells (.slice (some ⟨b, 0, none⟩) n c) xs) {q : Nat} (hq : q < xs.length) :
    w.cell? ⟨b, q * 3, none⟩ = some (.string xs[q].kind) ∧ w.cell? ⟨b, q * 3 + 1, none⟩ = some (.string xs[q].id) ∧ w.cell? ⟨b, q * 3 + 2, none⟩ = some (.string xs[q].rel) :=
  ⟨h.cellAt LUser.len hq (j := 0) (by omega) rfl, h.cellAt LUser.len hq (j := 1) (by omega) rfl, h.cellAt LUser.len hq (j := 2) (by omega) rfl⟩
set_option maxRecDepth 100000 in
set_option maxHeartbeats 40000000 in
theorem ref_People {A : Nat → Prop} {w : World} {L : List LTuple} {v : Value} (hu : RepD A w (.slice 6 (L.map LTuple.d)) v) (hs : ∀ t, t ∈ L → shortT t = true) (hl : L.length ≤ 1000) :
    Calls Tryz.prog 18 #[v] w fun e w' => ∃ v, e = .returned v ∧ OwnL w' w.heap.size 24 3 LUser.cells v (peopleOf L) ∧ Below w.heap.size w w' := by
  have mixed : Tryz.prog.follows Departure.mixedOrders = true := by kernel_rfl
  obtain ⟨a, c, rfl, _, _, hk⟩ := hu.tuples
  have HK := Lib.hid hk; have HSZ := Lib.hid hs; clear hk hu hs
  have hO0 := own_made (w := w) (N := w.heap.size) rfl 24 3 LUser.cells
  have HO0 := Lib.hid hO0; clear hO0
  go_enter Tryz.func18, Tryz.ntmps18
  go_wp2
  go_loopw [3, 4] (fun v n wr => ∃ q : Nat, q ≤ L.length ∧ n = .int .i64 q ∧ Aside (OwnL wr w.heap.size 24 3 LUser.cells v (canon uLess ((L.take q).map (·.user)))) ∧ Below w.heap.size w wr) (fun _ n _ => L.length - (intOf n).toNat)
  case atStart => exact ⟨0, by omega, rfl, ⟨HO0.out⟩, (Below.refl _ w).alloc (Nat.le_refl _) _⟩
  case round =>
    obtain ⟨q, hq, rfl, hO, hB⟩ := hrel
    by_cases hlt : q < L.length
    · obtain ⟨b, off, rfl, _, e0, e1, e2, e3, e4, e5⟩ := HK.out q hlt
      have hbl : b < w.heap.size := World.block_lt_of_cell? w _ e0
      rw [← hB.cell (by exact hbl)] at e0 e1 e2 e3 e4 e5
      have hstep : (L.take (q + 1)).map (·.user) = (L.take q).map (·.user) ++ [L[q].user] := by rw [List.take_succ_eq_append_getElem hlt, List.map_append]; rfl
      have hcs := canon_snoc lin_uLess ((L.take q).map (·.user)) L[q].user
      have hcm := fun (h : L[q].user ∈ (L.take q).map (·.user)) => canon_snoc_mem lin_uLess (S := (L.take q).map (·.user)) (t := L[q].user) h
      rw [← hstep] at hcs hcm
      have hmc := mem_canon (lt := uLess) L[q].user ((L.take q).map (·.user))
      have hri := rising_canon lin_uLess ((L.take q).map (·.user))
      have hln : (canon uLess ((L.take q).map (·.user))).length ≤ 1000 := Nat.le_trans (canon_length_le _) (by simp; omega)
      obtain ⟨_, _, _, z1, z2, z3⟩ := shortT_all (HSZ.out _ (List.getElem_mem hlt))
      have hsu : ∀ s, s ∈ (L[q].user).strs → s.size ≤ 300 := by
        intro s hs
        simp [LUser.strs] at hs
        rcases hs with rfl | rfl | rfl <;> assumption
      rw [← hmc] at hcm
      generalize canon uLess ((L.take q).map (·.user)) = out at *
      generalize L[q].user = u at *
      obtain ⟨ao, co, rfl, _, _⟩ := hO.out.form
      have HO := Lib.hid hO.out; have HCS := Lib.hid hcs; have HCM := Lib.hid hcm; have HSU := Lib.hid hsu
      clear hO hcs hcm hmc hri hsu hstep z1 z2 z3
      have hP0 : PeSt wr ((wr.alloc (.cells #[.string u.kind, .string u.id, .string u.rel] 24)).alloc (.cells #[] 24)) u (.slice (some ⟨wr.heap.size + 1, 0, none⟩) 0 0) [] [] :=
        ⟨(Below.refl _ _).alloc (by simp) _, own_made (by simp) 24 3 LUser.cells, fun p hp => by cases hp⟩
      have HP0 := Lib.hid hP0
      clear hP0
      go_wp2
      obtain ⟨wo, rfl⟩ : ∃ x, x = wr := ⟨wr, rfl⟩
      go_loopw [6, 7, 8, 9] (fun hs n dn i wr => ∃ (k : Nat) (hb d : Bool) (nl : List LUser), k ≤ out.length ∧ i = .int .i64 k ∧ hs = .bool hb ∧ dn = .bool d ∧ Aside (PeSt wo wr u n nl []) ∧ Aside (hb = decide (u ∈ out.take k)) ∧ Aside (hb = false → Ins uLess u d nl (out.take k)) ∧ Aside (nl.length ≤ k + 1 ∧ (d = false → nl.length ≤ k))) (fun _ _ _ i _ => out.length - (intOf i).toNat)
      case atStart => exact ⟨0, false, false, [], by omega, rfl, rfl, rfl, ⟨HP0.out⟩, ⟨by simp⟩, ⟨fun _ => Ins.start u⟩, ⟨by simp⟩⟩
      case round =>
        obtain ⟨k, hb, d, nl, hk, rfl, rfl, rfl, hS, hHB, hI, hLn⟩ := hrel
        have hlen := hLn.out.1
        have hlen2 := hLn.out.2
        by_cases hlk : k < out.length
        · have hown := HO.out.below hS.out.old
          obtain ⟨g, rfl⟩ := own_place' hown (by omega)
          obtain ⟨d0, d1, d2⟩ := own_cells3 hown hlk
          have hx : out.take (k + 1) = out.take k ++ [out[k]] := List.take_succ_eq_append_getElem hlk
          generalize out[k] = y at *
          have HX := Lib.hid hx
          have hglt : g < wo.heap.size := by have := (OwnL.block HO.out g rfl).2; exact this
          have HD := Lib.hid (show wo.cell? ⟨g, k * 3, none⟩ = some (.string y.kind) ∧ wo.cell? ⟨g, k * 3 + 1, none⟩ = some (.string y.id) ∧ wo.cell? ⟨g, k * 3 + 2, none⟩ = some (.string y.rel) from ⟨(hS.out.old.cell (p := ⟨g, k * 3, none⟩) hglt).symm.trans d0, (hS.out.old.cell (p := ⟨g, k * 3 + 1, none⟩) hglt).symm.trans d1, (hS.out.old.cell (p := ⟨g, k * 3 + 2, none⟩) hglt).symm.trans d2⟩)
          have ST := Lib.hid (hS.out.next (Below.refl _ wr).drew)
          obtain ⟨c0, c1, c2⟩ := ST.out.cells
          have hdy : ∀ W, Below wo.heap.size wo W → W.cell? ⟨g, k * 3, none⟩ = some (.string y.kind) ∧ W.cell? ⟨g, k * 3 + 1, none⟩ = some (.string y.id) ∧ W.cell? ⟨g, k * 3 + 2, none⟩ = some (.string y.rel) := fun W hW => ⟨(hW.cell (p := ⟨g, k * 3, none⟩) hglt).trans HD.out.1, (hW.cell (p := ⟨g, k * 3 + 1, none⟩) hglt).trans HD.out.2.1, (hW.cell (p := ⟨g, k * 3 + 2, none⟩) hglt).trans HD.out.2.2⟩
          have HDY := Lib.hid hdy
          clear hS hown hx d0 d1 d2 hLn hdy HD
          obtain ⟨d0, d1, d2⟩ := HDY.out _ ST.out.old
          have heq := user_eql y u
          unfold LUser.val at heq
          have hmx : decide (u ∈ out.take (k + 1)) = (decide (u ∈ out.take k) || decide (y = u)) := by
            rw [HX.out]
            simp only [List.mem_append, List.mem_singleton, Bool.decide_or]
            congr 1
            rw [decide_eq_decide]
            exact eq_comm
          have HMX := Lib.hid hmx
          clear hmx
          have hle := fun W n nl A (h : PeSt wo W u n nl A) p q r (hp : (p, u.strs) ∈ A) (hq : (q, y.strs) ∈ A) (hr : uLess u y = r) => pe_Less h hp hq HSU.out hr
          cases hb with
          | true =>
            have HHB := Lib.hid (show true = decide (u ∈ out.take (k + 1)) by rw [HMX.out, ← hHB.out]; rfl)
            clear hHB HMX heq
            go_wp2_with fail
            go_region_o
            have ST2 := ST
            cases d with
            | true =>
              have HL1 := Lib.hid (show (nl ++ [y]).length ≤ k + 1 + 1 by simp; omega)
              clear hI hlen2
              go_wp2_with fail
              go_region_o
              clear d0 d1 d2 c0 c1 c2
              have ST3 := Lib.hid (ST2.out.next (Below.refl _ _).drew)
              obtain ⟨c0, c1, c2⟩ := ST3.out.cells
              obtain ⟨d0, d1, d2⟩ := HDY.out _ ST3.out.old
              go_wp2_with (at_builtin; refine wpList_appU ST3.out rfl _ _ rfl y rfl rfl rfl (by omega) ?_; intro v1 w4 hS4; have HS4 := Lib.hid hS4; clear hS4)
              first
                | exact ⟨⟨k + 1, true, true, nl ++ [y], by omega, by go_num, rfl, rfl, ⟨HS4.out⟩, ⟨HHB.out⟩, ⟨fun h => by cases h⟩, ⟨⟨HL1.out, fun h => by cases h⟩⟩⟩, by simp [intOf] <;> omega⟩
                | (go_roundw
                   case rel => exact ⟨k + 1, true, true, nl ++ [y], by omega, by go_num, rfl, rfl, ⟨HS4.out⟩, ⟨HHB.out⟩, ⟨fun h => by cases h⟩, ⟨⟨HL1.out, fun h => by cases h⟩⟩⟩
                   case measure => simp [intOf]; omega)
            | false =>
              have hl0 := hlen2 (by first | rfl | trivial)
              cases hlb : uLess u y with
              | true =>
                have HL1 := Lib.hid (show (nl ++ [u] ++ [y]).length ≤ k + 1 + 1 by simp; omega)
                clear hI hlen2
                have HLE := Lib.hid (fun W n nl A h p q hp hq => hle W n nl A h p q true hp hq hlb)
                clear hle d0 d1 d2 c0 c1 c2
                have ST3 := Lib.hid (And.intro (ST2.out.next (Below.refl _ _).drew) (HDY.out _ (ST2.out.next (Below.refl _ _).drew).old))
                go_wp2_with fail
                go_region_held3 (fun W => (W.cell? ⟨wo.heap.size, 0, none⟩ = some (.string u.kind) ∧ W.cell? ⟨wo.heap.size, 1, none⟩ = some (.string u.id) ∧ W.cell? ⟨wo.heap.size, 2, none⟩ = some (.string u.rel)) ∧ (W.cell? ⟨g, k * 3, none⟩ = some (.string y.kind) ∧ W.cell? ⟨g, k * 3 + 1, none⟩ = some (.string y.id) ∧ W.cell? ⟨g, k * 3 + 2, none⟩ = some (.string y.rel)))
                  (exact ⟨ST3.out.1.cells, ST3.out.2⟩)
                  (first
                    | (go_at_call 39; refine (pe_parts ST3.out.1 _ _ _).mono ?_; rintro r1 W5 ⟨pv, rfl, hx5, hb5⟩; clear ST3; have ST3 := Lib.hid (And.intro hx5 (HDY.out _ hx5.old)); clear hx5 hb5)
                    | (go_at_call 38; refine (HLE.out _ _ _ _ ST3.out.1 _ _ (by simp [LUser.strs]) (by simp [LUser.strs])).mono ?_; rintro r1 W5 ⟨rfl, hx5, hb5⟩; clear ST3; have ST3 := Lib.hid (And.intro hx5 (HDY.out _ hx5.old)); clear hx5 hb5))
                all_goals
                  obtain ⟨c0, c1, c2⟩ := ST3.out.1.cells
                  obtain ⟨d0, d1, d2⟩ := ST3.out.2
                  go_wp2_with (at_builtin; first
                    | (refine wpList_appU ST3.out.1 rfl _ _ rfl u rfl rfl rfl (by omega) ?_; intro v1 w4 hS4; have HS4 := Lib.hid hS4; obtain ⟨b0, b1, b2⟩ := HDY.out _ hS4.old; clear hS4)
                    | (refine wpList_appU HS4.out rfl _ _ rfl y rfl rfl rfl (by simp; omega) ?_; intro v2 w5 hS5; have HS5 := Lib.hid hS5; clear hS5))
                  first
                    | exact ⟨⟨k + 1, true, true, nl ++ [u] ++ [y], by omega, by go_num, rfl, rfl, ⟨HS5.out⟩, ⟨HHB.out⟩, ⟨fun h => by cases h⟩, ⟨⟨HL1.out, fun h => by cases h⟩⟩⟩, by simp [intOf] <;> omega⟩
                    | (go_roundw
                       case rel => exact ⟨k + 1, true, true, nl ++ [u] ++ [y], by omega, by go_num, rfl, rfl, ⟨HS5.out⟩, ⟨HHB.out⟩, ⟨fun h => by cases h⟩, ⟨⟨HL1.out, fun h => by cases h⟩⟩⟩
                       case measure => simp [intOf]; omega)
              | false =>
                have HL1 := Lib.hid (show (nl ++ [y]).length ≤ k + 1 + 1 by simp; omega)
                have HL2 := Lib.hid (show (nl ++ [y]).length ≤ k + 1 by simp; omega)
                clear hI hlen2
                have HLE := Lib.hid (fun W n nl A h p q hp hq => hle W n nl A h p q false hp hq hlb)
                clear hle d0 d1 d2 c0 c1 c2
                have ST3 := Lib.hid (And.intro (ST2.out.next (Below.refl _ _).drew) (HDY.out _ (ST2.out.next (Below.refl _ _).drew).old))
                go_wp2_with fail
                go_region_held3 (fun W => (W.cell? ⟨wo.heap.size, 0, none⟩ = some (.string u.kind) ∧ W.cell? ⟨wo.heap.size, 1, none⟩ = some (.string u.id) ∧ W.cell? ⟨wo.heap.size, 2, none⟩ = some (.string u.rel)) ∧ (W.cell? ⟨g, k * 3, none⟩ = some (.string y.kind) ∧ W.cell? ⟨g, k * 3 + 1, none⟩ = some (.string y.id) ∧ W.cell? ⟨g, k * 3 + 2, none⟩ = some (.string y.rel)))
                  (exact ⟨ST3.out.1.cells, ST3.out.2⟩)
                  (first
                    | (go_at_call 39; refine (pe_parts ST3.out.1 _ _ _).mono ?_; rintro r1 W5 ⟨pv, rfl, hx5, hb5⟩; clear ST3; have ST3 := Lib.hid (And.intro hx5 (HDY.out _ hx5.old)); clear hx5 hb5)
                    | (go_at_call 38; refine (HLE.out _ _ _ _ ST3.out.1 _ _ (by simp [LUser.strs]) (by simp [LUser.strs])).mono ?_; rintro r1 W5 ⟨rfl, hx5, hb5⟩; clear ST3; have ST3 := Lib.hid (And.intro hx5 (HDY.out _ hx5.old)); clear hx5 hb5))
                all_goals
                  obtain ⟨c0, c1, c2⟩ := ST3.out.1.cells
                  obtain ⟨d0, d1, d2⟩ := ST3.out.2
                  go_wp2_with (at_builtin; refine wpList_appU ST3.out.1 rfl _ _ rfl y rfl rfl rfl (by omega) ?_; intro v1 w4 hS4; have HS4 := Lib.hid hS4; clear hS4)
                  first
                    | exact ⟨⟨k + 1, true, false, nl ++ [y], by omega, by go_num, rfl, rfl, ⟨HS4.out⟩, ⟨HHB.out⟩, ⟨fun h => by cases h⟩, ⟨⟨HL1.out, fun _ => HL2.out⟩⟩⟩, by simp [intOf] <;> omega⟩
                    | (go_roundw
                       case rel => exact ⟨k + 1, true, false, nl ++ [y], by omega, by go_num, rfl, rfl, ⟨HS4.out⟩, ⟨HHB.out⟩, ⟨fun h => by cases h⟩, ⟨⟨HL1.out, fun _ => HL2.out⟩⟩⟩
                       case measure => simp [intOf]; omega)
          | false =>
            have hnot : u ∉ out.take k := by have := hHB.out; simpa using this.symm
            by_cases hyu : y = u
            · have HHB := Lib.hid (show true = decide (u ∈ out.take (k + 1)) by rw [HMX.out, decide_eq_true hyu, Bool.or_true])
              rw [decide_eq_true hyu] at heq
              clear hHB HMX hyu
              go_wp2_with fail
              go_region_o
              have ST2 := ST
              cases d with
              | true =>
                have HL1 := Lib.hid (show (nl ++ [y]).length ≤ k + 1 + 1 by simp; omega)
                clear hI hlen2
                go_wp2_with fail
                go_region_o
                clear d0 d1 d2 c0 c1 c2
                have ST3 := Lib.hid (ST2.out.next (Below.refl _ _).drew)
                obtain ⟨c0, c1, c2⟩ := ST3.out.cells
                obtain ⟨d0, d1, d2⟩ := HDY.out _ ST3.out.old
                go_wp2_with (at_builtin; refine wpList_appU ST3.out rfl _ _ rfl y rfl rfl rfl (by omega) ?_; intro v1 w4 hS4; have HS4 := Lib.hid hS4; clear hS4)
                first
                  | exact ⟨⟨k + 1, true, true, nl ++ [y], by omega, by go_num, rfl, rfl, ⟨HS4.out⟩, ⟨HHB.out⟩, ⟨fun h => by cases h⟩, ⟨⟨HL1.out, fun h => by cases h⟩⟩⟩, by simp [intOf] <;> omega⟩
                  | (go_roundw
                     case rel => exact ⟨k + 1, true, true, nl ++ [y], by omega, by go_num, rfl, rfl, ⟨HS4.out⟩, ⟨HHB.out⟩, ⟨fun h => by cases h⟩, ⟨⟨HL1.out, fun h => by cases h⟩⟩⟩
                     case measure => simp [intOf]; omega)
              | false =>
                have hl0 := hlen2 (by first | rfl | trivial)
                cases hlb : uLess u y with
                | true =>
                  have HL1 := Lib.hid (show (nl ++ [u] ++ [y]).length ≤ k + 1 + 1 by simp; omega)
                  clear hI hlen2
                  have HLE := Lib.hid (fun W n nl A h p q hp hq => hle W n nl A h p q true hp hq hlb)
                  clear hle d0 d1 d2 c0 c1 c2
                  have ST3 := Lib.hid (And.intro (ST2.out.next (Below.refl _ _).drew) (HDY.out _ (ST2.out.next (Below.refl _ _).drew).old))
                  go_wp2_with fail
                  go_region_held3 (fun W => (W.cell? ⟨wo.heap.size, 0, none⟩ = some (.string u.kind) ∧ W.cell? ⟨wo.heap.size, 1, none⟩ = some (.string u.id) ∧ W.cell? ⟨wo.heap.size, 2, none⟩ = some (.string u.rel)) ∧ (W.cell? ⟨g, k * 3, none⟩ = some (.string y.kind) ∧ W.cell? ⟨g, k * 3 + 1, none⟩ = some (.string y.id) ∧ W.cell? ⟨g, k * 3 + 2, none⟩ = some (.string y.rel)))
                    (exact ⟨ST3.out.1.cells, ST3.out.2⟩)
                    (first
                      | (go_at_call 39; refine (pe_parts ST3.out.1 _ _ _).mono ?_; rintro r1 W5 ⟨pv, rfl, hx5, hb5⟩; clear ST3; have ST3 := Lib.hid (And.intro hx5 (HDY.out _ hx5.old)); clear hx5 hb5)
                      | (go_at_call 38; refine (HLE.out _ _ _ _ ST3.out.1 _ _ (by simp [LUser.strs]) (by simp [LUser.strs])).mono ?_; rintro r1 W5 ⟨rfl, hx5, hb5⟩; clear ST3; have ST3 := Lib.hid (And.intro hx5 (HDY.out _ hx5.old)); clear hx5 hb5))
                  all_goals
                    obtain ⟨c0, c1, c2⟩ := ST3.out.1.cells
                    obtain ⟨d0, d1, d2⟩ := ST3.out.2
                    go_wp2_with (at_builtin; first
                      | (refine wpList_appU ST3.out.1 rfl _ _ rfl u rfl rfl rfl (by omega) ?_; intro v1 w4 hS4; have HS4 := Lib.hid hS4; obtain ⟨b0, b1, b2⟩ := HDY.out _ hS4.old; clear hS4)
                      | (refine wpList_appU HS4.out rfl _ _ rfl y rfl rfl rfl (by simp; omega) ?_; intro v2 w5 hS5; have HS5 := Lib.hid hS5; clear hS5))
                    first
                      | exact ⟨⟨k + 1, true, true, nl ++ [u] ++ [y], by omega, by go_num, rfl, rfl, ⟨HS5.out⟩, ⟨HHB.out⟩, ⟨fun h => by cases h⟩, ⟨⟨HL1.out, fun h => by cases h⟩⟩⟩, by simp [intOf] <;> omega⟩
                      | (go_roundw
                         case rel => exact ⟨k + 1, true, true, nl ++ [u] ++ [y], by omega, by go_num, rfl, rfl, ⟨HS5.out⟩, ⟨HHB.out⟩, ⟨fun h => by cases h⟩, ⟨⟨HL1.out, fun h => by cases h⟩⟩⟩
                         case measure => simp [intOf]; omega)
                | false =>
                  have HL1 := Lib.hid (show (nl ++ [y]).length ≤ k + 1 + 1 by simp; omega)
                  have HL2 := Lib.hid (show (nl ++ [y]).length ≤ k + 1 by simp; omega)
                  clear hI hlen2
                  have HLE := Lib.hid (fun W n nl A h p q hp hq => hle W n nl A h p q false hp hq hlb)
                  clear hle d0 d1 d2 c0 c1 c2
                  have ST3 := Lib.hid (And.intro (ST2.out.next (Below.refl _ _).drew) (HDY.out _ (ST2.out.next (Below.refl _ _).drew).old))
                  go_wp2_with fail
                  go_region_held3 (fun W => (W.cell? ⟨wo.heap.size, 0, none⟩ = some (.string u.kind) ∧ W.cell? ⟨wo.heap.size, 1, none⟩ = some (.string u.id) ∧ W.cell? ⟨wo.heap.size, 2, none⟩ = some (.string u.rel)) ∧ (W.cell? ⟨g, k * 3, none⟩ = some (.string y.kind) ∧ W.cell? ⟨g, k * 3 + 1, none⟩ = some (.string y.id) ∧ W.cell? ⟨g, k * 3 + 2, none⟩ = some (.string y.rel)))
                    (exact ⟨ST3.out.1.cells, ST3.out.2⟩)
                    (first
                      | (go_at_call 39; refine (pe_parts ST3.out.1 _ _ _).mono ?_; rintro r1 W5 ⟨pv, rfl, hx5, hb5⟩; clear ST3; have ST3 := Lib.hid (And.intro hx5 (HDY.out _ hx5.old)); clear hx5 hb5)
                      | (go_at_call 38; refine (HLE.out _ _ _ _ ST3.out.1 _ _ (by simp [LUser.strs]) (by simp [LUser.strs])).mono ?_; rintro r1 W5 ⟨rfl, hx5, hb5⟩; clear ST3; have ST3 := Lib.hid (And.intro hx5 (HDY.out _ hx5.old)); clear hx5 hb5))
                  all_goals
                    obtain ⟨c0, c1, c2⟩ := ST3.out.1.cells
                    obtain ⟨d0, d1, d2⟩ := ST3.out.2
                    go_wp2_with (at_builtin; refine wpList_appU ST3.out.1 rfl _ _ rfl y rfl rfl rfl (by omega) ?_; intro v1 w4 hS4; have HS4 := Lib.hid hS4; clear hS4)
                    first
                      | exact ⟨⟨k + 1, true, false, nl ++ [y], by omega, by go_num, rfl, rfl, ⟨HS4.out⟩, ⟨HHB.out⟩, ⟨fun h => by cases h⟩, ⟨⟨HL1.out, fun _ => HL2.out⟩⟩⟩, by simp [intOf] <;> omega⟩
                      | (go_roundw
                         case rel => exact ⟨k + 1, true, false, nl ++ [y], by omega, by go_num, rfl, rfl, ⟨HS4.out⟩, ⟨HHB.out⟩, ⟨fun h => by cases h⟩, ⟨⟨HL1.out, fun _ => HL2.out⟩⟩⟩
                         case measure => simp [intOf]; omega)
            · have HHB := Lib.hid (show false = decide (u ∈ out.take (k + 1)) by rw [HMX.out, ← hHB.out, decide_eq_false hyu]; rfl)
              rw [decide_eq_false hyu] at heq
              clear hHB HMX hyu
              go_wp2_with fail
              go_region_o
              have ST2 := ST
              cases d with
              | true =>
                have HINS := Lib.hid (show True → Ins uLess u true (nl ++ [y]) (out.take (k + 1)) from fun _ => by rw [HX.out]; exact (hI.out (by first | rfl | trivial)).over y)
                have HL1 := Lib.hid (show (nl ++ [y]).length ≤ k + 1 + 1 by simp; omega)
                clear hI hlen2
                go_wp2_with fail
                go_region_o
                clear d0 d1 d2 c0 c1 c2
                have ST3 := Lib.hid (ST2.out.next (Below.refl _ _).drew)
                obtain ⟨c0, c1, c2⟩ := ST3.out.cells
                obtain ⟨d0, d1, d2⟩ := HDY.out _ ST3.out.old
                go_wp2_with (at_builtin; refine wpList_appU ST3.out rfl _ _ rfl y rfl rfl rfl (by omega) ?_; intro v1 w4 hS4; have HS4 := Lib.hid hS4; clear hS4)
                first
                  | exact ⟨⟨k + 1, false, true, nl ++ [y], by omega, by go_num, rfl, rfl, ⟨HS4.out⟩, ⟨HHB.out⟩, ⟨fun _ => HINS.out trivial⟩, ⟨⟨HL1.out, fun h => by cases h⟩⟩⟩, by simp [intOf] <;> omega⟩
                  | (go_roundw
                     case rel => exact ⟨k + 1, false, true, nl ++ [y], by omega, by go_num, rfl, rfl, ⟨HS4.out⟩, ⟨HHB.out⟩, ⟨fun _ => HINS.out trivial⟩, ⟨⟨HL1.out, fun h => by cases h⟩⟩⟩
                     case measure => simp [intOf]; omega)
              | false =>
                have hl0 := hlen2 (by first | rfl | trivial)
                cases hlb : uLess u y with
                | true =>
                  have HINS := Lib.hid (show True → Ins uLess u true (nl ++ [u] ++ [y]) (out.take (k + 1)) from fun _ => by rw [HX.out]; exact (hI.out (by first | rfl | trivial)).here hnot hlb)
                  have HL1 := Lib.hid (show (nl ++ [u] ++ [y]).length ≤ k + 1 + 1 by simp; omega)
                  clear hI hlen2
                  have HLE := Lib.hid (fun W n nl A h p q hp hq => hle W n nl A h p q true hp hq hlb)
                  clear hle d0 d1 d2 c0 c1 c2
                  have ST3 := Lib.hid (And.intro (ST2.out.next (Below.refl _ _).drew) (HDY.out _ (ST2.out.next (Below.refl _ _).drew).old))
                  go_wp2_with fail
                  go_region_held3 (fun W => (W.cell? ⟨wo.heap.size, 0, none⟩ = some (.string u.kind) ∧ W.cell? ⟨wo.heap.size, 1, none⟩ = some (.string u.id) ∧ W.cell? ⟨wo.heap.size, 2, none⟩ = some (.string u.rel)) ∧ (W.cell? ⟨g, k * 3, none⟩ = some (.string y.kind) ∧ W.cell? ⟨g, k * 3 + 1, none⟩ = some (.string y.id) ∧ W.cell? ⟨g, k * 3 + 2, none⟩ = some (.string y.rel)))
                    (exact ⟨ST3.out.1.cells, ST3.out.2⟩)
                    (first
                      | (go_at_call 39; refine (pe_parts ST3.out.1 _ _ _).mono ?_; rintro r1 W5 ⟨pv, rfl, hx5, hb5⟩; clear ST3; have ST3 := Lib.hid (And.intro hx5 (HDY.out _ hx5.old)); clear hx5 hb5)
                      | (go_at_call 38; refine (HLE.out _ _ _ _ ST3.out.1 _ _ (by simp [LUser.strs]) (by simp [LUser.strs])).mono ?_; rintro r1 W5 ⟨rfl, hx5, hb5⟩; clear ST3; have ST3 := Lib.hid (And.intro hx5 (HDY.out _ hx5.old)); clear hx5 hb5))
                  all_goals
                    obtain ⟨c0, c1, c2⟩ := ST3.out.1.cells
                    obtain ⟨d0, d1, d2⟩ := ST3.out.2
                    go_wp2_with (at_builtin; first
                      | (refine wpList_appU ST3.out.1 rfl _ _ rfl u rfl rfl rfl (by omega) ?_; intro v1 w4 hS4; have HS4 := Lib.hid hS4; obtain ⟨b0, b1, b2⟩ := HDY.out _ hS4.old; clear hS4)
                      | (refine wpList_appU HS4.out rfl _ _ rfl y rfl rfl rfl (by simp; omega) ?_; intro v2 w5 hS5; have HS5 := Lib.hid hS5; clear hS5))
                    first
                      | exact ⟨⟨k + 1, false, true, nl ++ [u] ++ [y], by omega, by go_num, rfl, rfl, ⟨HS5.out⟩, ⟨HHB.out⟩, ⟨fun _ => HINS.out trivial⟩, ⟨⟨HL1.out, fun h => by cases h⟩⟩⟩, by simp [intOf] <;> omega⟩
                      | (go_roundw
                         case rel => exact ⟨k + 1, false, true, nl ++ [u] ++ [y], by omega, by go_num, rfl, rfl, ⟨HS5.out⟩, ⟨HHB.out⟩, ⟨fun _ => HINS.out trivial⟩, ⟨⟨HL1.out, fun h => by cases h⟩⟩⟩
                         case measure => simp [intOf]; omega)
                | false =>
                  have HINS := Lib.hid (show True → Ins uLess u false (nl ++ [y]) (out.take (k + 1)) from fun _ => by rw [HX.out]; exact (hI.out (by first | rfl | trivial)).past hlb)
                  have HL1 := Lib.hid (show (nl ++ [y]).length ≤ k + 1 + 1 by simp; omega)
                  have HL2 := Lib.hid (show (nl ++ [y]).length ≤ k + 1 by simp; omega)
                  clear hI hlen2
                  have HLE := Lib.hid (fun W n nl A h p q hp hq => hle W n nl A h p q false hp hq hlb)
                  clear hle d0 d1 d2 c0 c1 c2
                  have ST3 := Lib.hid (And.intro (ST2.out.next (Below.refl _ _).drew) (HDY.out _ (ST2.out.next (Below.refl _ _).drew).old))
                  go_wp2_with fail
                  go_region_held3 (fun W => (W.cell? ⟨wo.heap.size, 0, none⟩ = some (.string u.kind) ∧ W.cell? ⟨wo.heap.size, 1, none⟩ = some (.string u.id) ∧ W.cell? ⟨wo.heap.size, 2, none⟩ = some (.string u.rel)) ∧ (W.cell? ⟨g, k * 3, none⟩ = some (.string y.kind) ∧ W.cell? ⟨g, k * 3 + 1, none⟩ = some (.string y.id) ∧ W.cell? ⟨g, k * 3 + 2, none⟩ = some (.string y.rel)))
                    (exact ⟨ST3.out.1.cells, ST3.out.2⟩)
                    (first
                      | (go_at_call 39; refine (pe_parts ST3.out.1 _ _ _).mono ?_; rintro r1 W5 ⟨pv, rfl, hx5, hb5⟩; clear ST3; have ST3 := Lib.hid (And.intro hx5 (HDY.out _ hx5.old)); clear hx5 hb5)
                      | (go_at_call 38; refine (HLE.out _ _ _ _ ST3.out.1 _ _ (by simp [LUser.strs]) (by simp [LUser.strs])).mono ?_; rintro r1 W5 ⟨rfl, hx5, hb5⟩; clear ST3; have ST3 := Lib.hid (And.intro hx5 (HDY.out _ hx5.old)); clear hx5 hb5))
                  all_goals
                    obtain ⟨c0, c1, c2⟩ := ST3.out.1.cells
                    obtain ⟨d0, d1, d2⟩ := ST3.out.2
                    go_wp2_with (at_builtin; refine wpList_appU ST3.out.1 rfl _ _ rfl y rfl rfl rfl (by omega) ?_; intro v1 w4 hS4; have HS4 := Lib.hid hS4; clear hS4)
                    first
                      | exact ⟨⟨k + 1, false, false, nl ++ [y], by omega, by go_num, rfl, rfl, ⟨HS4.out⟩, ⟨HHB.out⟩, ⟨fun _ => HINS.out trivial⟩, ⟨⟨HL1.out, fun _ => HL2.out⟩⟩⟩, by simp [intOf] <;> omega⟩
                      | (go_roundw
                         case rel => exact ⟨k + 1, false, false, nl ++ [y], by omega, by go_num, rfl, rfl, ⟨HS4.out⟩, ⟨HHB.out⟩, ⟨fun _ => HINS.out trivial⟩, ⟨⟨HL1.out, fun _ => HL2.out⟩⟩⟩
                         case measure => simp [intOf]; omega)
        · have hkn : out.take k = out := List.take_of_length_le (by omega)
          have ST := Lib.hid hS.out
          obtain ⟨c0, c1, c2⟩ := ST.out.cells
          have hbel := hB.trans (ST.out.old.mono hB.size)
          have hh := hHB.out
          have hi := hI.out
          rw [hkn] at hh hi
          clear hS hHB hI hLn hkn
          cases hb with
          | true =>
            have hu : u ∈ out := by simpa using hh.symm
            have hst := HCM.out hu
            have HST := Lib.hid hst
            clear hst hu hh hi
            cases d with
            | true =>
              go_wp2
              first
                | exact ⟨⟨q + 1, by omega, by go_num, ⟨by rw [HST.out]; exact HO.out.below ST.out.old⟩, hbel⟩, by simp [intOf] <;> omega⟩
                | (go_roundw
                   case rel => exact ⟨q + 1, by omega, by go_num, ⟨by rw [HST.out]; exact HO.out.below ST.out.old⟩, hbel⟩
                   case measure => simp [intOf]; omega)
            | false =>
              go_wp2_with (at_builtin; refine wpList_appU ST.out rfl _ _ rfl u rfl rfl rfl (by omega) ?_; intro v1 w4 hS4; have HS4 := Lib.hid hS4; clear hS4)
              first
                | exact ⟨⟨q + 1, by omega, by go_num, ⟨by rw [HST.out]; exact HO.out.below HS4.out.old⟩, hB.trans (HS4.out.old.mono hB.size)⟩, by simp [intOf] <;> omega⟩
                | (go_roundw
                   case rel => exact ⟨q + 1, by omega, by go_num, ⟨by rw [HST.out]; exact HO.out.below HS4.out.old⟩, hB.trans (HS4.out.old.mono hB.size)⟩
                   case measure => simp [intOf]; omega)
          | false =>
            have hu : u ∉ out := by simpa using hh.symm
            cases d with
            | true =>
              have hst := HCS.out.trans (hi (by first | rfl | trivial)).done.symm
              have HST := Lib.hid hst
              clear hst hu hh hi
              go_wp2
              first
                | exact ⟨⟨q + 1, by omega, by go_num, ⟨by rw [HST.out]; exact ST.out.own.rebase (by have := hB.size; omega)⟩, hbel⟩, by simp [intOf] <;> omega⟩
                | (go_roundw
                   case rel => exact ⟨q + 1, by omega, by go_num, ⟨by rw [HST.out]; exact ST.out.own.rebase (by have := hB.size; omega)⟩, hbel⟩
                   case measure => simp [intOf]; omega)
            | false =>
              have hst := HCS.out.trans ((hi (by first | rfl | trivial)).fin hu).symm
              have HST := Lib.hid hst
              clear hst hu hh hi
              go_wp2_with (at_builtin; refine wpList_appU ST.out rfl _ _ rfl u rfl rfl rfl (by omega) ?_; intro v1 w4 hS4; have HS4 := Lib.hid hS4; clear hS4)
              first
                | exact ⟨⟨q + 1, by omega, by go_num, ⟨by rw [HST.out]; exact HS4.out.own.rebase (by have := hB.size; omega)⟩, hB.trans (HS4.out.old.mono hB.size)⟩, by simp [intOf] <;> omega⟩
                | (go_roundw
                   case rel => exact ⟨q + 1, by omega, by go_num, ⟨by rw [HST.out]; exact HS4.out.own.rebase (by have := hB.size; omega)⟩, hB.trans (HS4.out.old.mono hB.size)⟩
                   case measure => simp [intOf]; omega)
    · have hO2 := hO.out
      rw [List.take_of_length_le (by omega)] at hO2
      have HO2 := Lib.hid hO2; clear hO2 hO
      go_wp2
      go_ret
      exact ⟨_, rfl, HO2.out, hB⟩
end Go.Proofs.YtnfkjodiielidaaGreat

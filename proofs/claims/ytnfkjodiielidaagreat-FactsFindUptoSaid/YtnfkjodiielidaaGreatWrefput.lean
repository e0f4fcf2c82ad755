/- The document's layer 13: a tuple more; a set of those of a list that may be. -/
import Derived.Test.YtnfkjodiielidaaGreatWref11l
import Derived.Test.YtnfkjodiielidaaGreatPins
import Derived.Test.YtnfkjodiielidaaGreatWfacts1
import Derived.Test.YtnfkjodiielidaaGreatAppin
namespace Go.Proofs.YtnfkjodiielidaaGreat
set_option linter.unusedVariables false
set_option linter.unusedSimpArgs false
open Go.RowKit

/-- A tuple in its box, and a list of the call's own that grows. -/
structure PutSt (w W : World) (t : LTuple) (out : List LTuple) (vo : Value) : Prop where
  below : Below (w.heap.size + 1) (w.alloc (.cells #[.string t.kind, .string t.id, .string t.rel, .string t.user.kind, .string t.user.id, .string t.user.rel] 49)) W
  own : OwnL W (w.heap.size + 1) 49 6 LTuple.cells vo out
section
variable {w W W' : World} {t : LTuple} {out : List LTuple} {vo : Value}
theorem PutSt.size (h : PutSt w W t out vo) : w.heap.size + 1 ≤ W.heap.size := by have := h.below.size; simpa using this
theorem PutSt.next (h : PutSt w W t out vo) (hb : Below W.heap.size W W') : PutSt w W' t out vo := ⟨h.below.trans (hb.mono h.size), h.own.below hb⟩
theorem PutSt.old (h : PutSt w W t out vo) : Below w.heap.size w W := ((Below.refl _ w).alloc (Nat.le_refl _) _).trans (h.below.mono (by omega))
theorem PutSt.cells (h : PutSt w W t out vo) : W.cell? ⟨w.heap.size, 0, none⟩ = some (.string t.kind) ∧ W.cell? ⟨w.heap.size, 1, none⟩ = some (.string t.id) ∧ W.cell? ⟨w.heap.size, 2, none⟩ = some (.string t.rel) ∧ W.cell? ⟨w.heap.size, 3, none⟩ = some (.string t.user.kind) ∧ W.cell? ⟨w.heap.size, 4, none⟩ = some (.string t.user.id) ∧ W.cell? ⟨w.heap.size, 5, none⟩ = some (.string t.user.rel) :=
  box_cells6 ((h.below.block w.heap.size (by simp)).trans (heap_alloc_at rfl))
/-- append(out, y). -/
theorem wpList_appT {ops : Array Oper} {rest : List Oper} {o : Oper} {a : Act} {Q : Exit → Act → World → Prop} (h : PutSt w W t out vo) (hgd : o.guard = none) (s x : Operand)
    (ho : o.op = .call { callee := .builtin .append, args := #[s, x], argTypes := #[22, 22] }) (y : LTuple) (hs : a.eval s = vo) {N : Nat} (hx : a.eval x = .slice (some ⟨N, 0, none⟩) 1 1) (hN : N = W.heap.size) (hl : out.length ≤ 1000000)
    (k : ∀ v1 w1, PutSt w w1 t (out ++ [y]) v1 → wpList Tryz.prog ops Q rest (a.put o.dst v1) w1) : wpList Tryz.prog ops Q (o :: rest) a (W.alloc (.cells y.cells.toArray 49)) :=
  wpList_app (w.heap.size + 1) hgd s x _ 49 _ 6 96 ho Tryz.underlying22 info_tuple rfl (by omega) (by omega) LTuple.cells LTuple.len LTuple.one vo out y hs hx hN h.own h.size (by omega)
    fun v1 w1 hO hB _ => k v1 w1 ⟨h.below.trans hB, hO⟩
theorem put_Less (h : PutSt w W t out vo) (ht : shortT t = true) (a b c d e f : ByteArray) {r : Bool} (hr : tLess t ⟨a, b, c, ⟨d, e, f⟩⟩ = r) :
    Calls Tryz.prog 44 #[.agg #[.string t.kind, .string t.id, .string t.rel, .string t.user.kind, .string t.user.id, .string t.user.rel], .agg #[.string a, .string b, .string c, .string d, .string e, .string f]] W fun e W' => e = .returned (.bool r) ∧ PutSt w W' t out vo ∧ Below W.heap.size W W' := by
  subst hr
  refine (ref_LessT t ⟨a, b, c, ⟨d, e, f⟩⟩ ht W).mono ?_
  rintro r W' ⟨rfl, hb⟩
  exact ⟨rfl, h.next hb, hb⟩
end
/-- .. and the tuple that is looked at. -/
structure PutZ (w W : World) (t : LTuple) (out : List LTuple) (vo : Value) (b o : Nat) (z : LTuple) : Prop where
  st : PutSt w W t out vo
  zs : W.cell? ⟨b, o, none⟩ = some (.string z.kind) ∧ W.cell? ⟨b, o + 1, none⟩ = some (.string z.id) ∧ W.cell? ⟨b, o + 2, none⟩ = some (.string z.rel) ∧ W.cell? ⟨b, o + 3, none⟩ = some (.string z.user.kind) ∧ W.cell? ⟨b, o + 4, none⟩ = some (.string z.user.id) ∧ W.cell? ⟨b, o + 5, none⟩ = some (.string z.user.rel)
theorem PutZ.next {w W W' : World} {t z : LTuple} {out : List LTuple} {vo : Value} {b o : Nat} (h : PutZ w W t out vo b o z) (hb : Below W.heap.size W W') : PutZ w W' t out vo b o z := by
  have hlt : b < W.heap.size := World.block_lt_of_cell? _ _ h.zs.1
  refine ⟨h.st.next hb, ?_⟩
  have hc : ∀ j, W'.cell? ⟨b, j, none⟩ = W.cell? ⟨b, j, none⟩ := fun j => hb.cell (p := ⟨b, j, none⟩) hlt
  simp only [hc]
  exact h.zs
theorem PutZ.cells {w W : World} {t z : LTuple} {out : List LTuple} {vo : Value} {b o : Nat} (h : PutZ w W t out vo b o z) :
    (W.cell? ⟨w.heap.size, 0, none⟩ = some (.string t.kind) ∧ W.cell? ⟨w.heap.size, 1, none⟩ = some (.string t.id) ∧ W.cell? ⟨w.heap.size, 2, none⟩ = some (.string t.rel) ∧ W.cell? ⟨w.heap.size, 3, none⟩ = some (.string t.user.kind) ∧ W.cell? ⟨w.heap.size, 4, none⟩ = some (.string t.user.id) ∧ W.cell? ⟨w.heap.size, 5, none⟩ = some (.string t.user.rel)) ∧
    (W.cell? ⟨b, o, none⟩ = some (.string z.kind) ∧ W.cell? ⟨b, o + 1, none⟩ = some (.string z.id) ∧ W.cell? ⟨b, o + 2, none⟩ = some (.string z.rel) ∧ W.cell? ⟨b, o + 3, none⟩ = some (.string z.user.kind) ∧ W.cell? ⟨b, o + 4, none⟩ = some (.string z.user.id) ∧ W.cell? ⟨b, o + 5, none⟩ = some (.string z.user.rel)) := ⟨h.st.cells, h.zs⟩
theorem putz_Less {w W : World} {t z : LTuple} {out : List LTuple} {vo : Value} {b o : Nat} (h : PutZ w W t out vo b o z) (ht : shortT t = true) {r : Bool} (hr : tLess t z = r) :
    Calls Tryz.prog 44 #[.agg #[.string t.kind, .string t.id, .string t.rel, .string t.user.kind, .string t.user.id, .string t.user.rel], .agg #[.string z.kind, .string z.id, .string z.rel, .string z.user.kind, .string z.user.id, .string z.user.rel]] W fun e W' => e = .returned (.bool r) ∧ PutZ w W' t out vo b o z := by
  subst hr
  refine (ref_LessT t z ht W).mono ?_
  rintro r W' ⟨rfl, hb⟩
  exact ⟨rfl, h.next hb⟩
/-- One more, where it may be. -/
def putL (xs : List LTuple) (t : LTuple) : List LTuple := if mayPut xs t then ins tLess t xs else xs

set_option maxRecDepth 100000 in
set_option maxHeartbeats 8000000 in
theorem ref_Put {w : World} {base : Nat} {xs : List LTuple} {v : Value} (HO : OwnL w base 49 6 LTuple.cells v xs) (hbase : base ≤ w.heap.size) (hl : xs.length ≤ 100000) (t : LTuple) (ht : shortT t = true) :
    Calls Tryz.prog 24 #[v, t.val] w fun e w' => ∃ v', e = .returned (.tuple #[v', .bool (mayPut xs t)]) ∧ OwnL w' base 49 6 LTuple.cells v' (putL xs t) ∧ Below w.heap.size w w' := by
  have mixed : Tryz.prog.follows Departure.mixedOrders = true := by kernel_rfl
  have hck := fun W => ref_Check t ht W
  have hB0 : Below w.heap.size w (w.alloc (.cells #[.string t.kind, .string t.id, .string t.rel, .string t.user.kind, .string t.user.id, .string t.user.rel] 49)) := (Below.refl _ w).alloc (Nat.le_refl _) _
  have hrep : RepD (fun b => b < w.heap.size) w (.slice 6 (xs.map LTuple.d)) v := (HO.tuples (A := fun _ => True) (fun _ _ => trivial) (by omega)).mono fun b _ h => h
  have hhas := fun W (h : Below w.heap.size w W) => ref_Has (hrep.old h) t
  cases hok : okTuple t with
  | false =>
    have e1 : mayPut xs t = false := by simp [mayPut, hok]
    have e2 : putL xs t = xs := by simp [putL, e1]
    rw [e1, e2]
    rw [hok] at hck
    have HO' := Lib.hid HO; have HCK := Lib.hid hck
    clear HO hck hhas hrep e1 e2 hok
    unfold LTuple.val at *
    go_enter Tryz.func24, Tryz.ntmps24
    go_wp2_with (go_at_call 42; refine (HCK.out _).mono ?_; rintro r w1 ⟨rfl, hb1⟩; have hB1 := below_past hB0 hb1; clear hb1)
    go_ret2
    exact ⟨_, rfl, HO'.out.below hB1, hB1⟩
  | true =>
    rw [hok] at hck
    by_cases hm : t ∈ xs
    · have e1 : mayPut xs t = false := by simp [mayPut, hm]
      have e2 : putL xs t = xs := by simp [putL, e1]
      rw [e1, e2]
      simp only [hm, decide_true] at hhas
      have HO' := Lib.hid HO; have HCK := Lib.hid hck; have HH := Lib.hid hhas
      clear HO hck hhas hrep e1 e2 hok hm
      unfold LTuple.val at *
      go_enter Tryz.func24, Tryz.ntmps24
      go_wp2_with fail
      refine (HCK.out _).mono ?_
      rintro r w1 ⟨rfl, hb1⟩
      have hB1 := below_past hB0 hb1
      obtain ⟨hc, hf⟩ := bcell hb1
      go_wp2_with fail
      refine (HH.out _ hB1).mono ?_
      rintro r w2 ⟨rfl, hb2⟩
      go_wp2
      go_ret2
      have hB2 := below_past hB1 hb2
      exact ⟨_, rfl, HO'.out.below hB2, hB2⟩
    · have e1 : mayPut xs t = true := by simp [mayPut, hm, hok]
      have e2 : putL xs t = ins tLess t xs := by simp [putL, e1]
      rw [e1, e2]
      simp only [hm, decide_false] at hhas
      obtain ⟨a, c, rfl, _, _, hk⟩ := hrep.tuples
      have HO' := Lib.hid HO; have HCK := Lib.hid hck; have HH := Lib.hid hhas; have HK := Lib.hid hk; have HM := Lib.hid hm
      clear HO hck hhas hrep e1 e2 hok hm hk
      unfold LTuple.val at *
      go_enter Tryz.func24, Tryz.ntmps24
      go_wp2_with fail
      refine (HCK.out _).mono ?_
      rintro r w1 ⟨rfl, hb1⟩
      have hB1 := below_past hB0 hb1
      obtain ⟨hc, hf⟩ := bcell hb1
      have hz1 := hb1.size
      have HB1 := Lib.hid hb1; clear hb1
      go_wp2_with fail
      refine (HH.out _ hB1).mono ?_
      rintro r w2 ⟨rfl, hb2⟩
      have hB2 := below_past hB1 hb2
      have hz : w.heap.size + 1 ≤ w2.heap.size := by have := hb2.size; simp at hz1; omega
      have hS0 : PutSt w (w2.alloc (.cells #[] 49)) t [] (.slice (some ⟨w2.heap.size, 0, none⟩) 0 0) :=
        ⟨((HB1.out.mono (by simp)).trans (hb2.mono (by simp at hz1 ⊢; omega))).alloc (by simpa using hz) _, (own_made rfl 49 6 LTuple.cells).rebase (by omega)⟩
      have HS0 := Lib.hid hS0; clear hS0 HB1 hb2 hz1 hc hf HH HCK hB1
      go_wp2
      go_loopw [6, 7, 8] (fun vo dn i wr => ∃ (k : Nat) (d : Bool) (out : List LTuple), k ≤ xs.length ∧ i = .int .i64 k ∧ dn = .bool d ∧ Aside (PutSt w wr t out vo) ∧ Aside (Ins tLess t d out (xs.take k))) (fun _ _ i _ => xs.length - (intOf i).toNat)
      case atStart => exact ⟨0, false, [], by omega, rfl, rfl, ⟨HS0.out⟩, ⟨Ins.start t⟩⟩
      case round =>
        obtain ⟨k, d, out, hk, rfl, rfl, hS, hI⟩ := hrel
        have holen : out.length ≤ xs.length + 1 := by have := hI.out.length; simp at this; omega
        by_cases hlt : k < xs.length
        · obtain ⟨b, off, rfl, _, e0, e1, e2, e3, e4, e5⟩ := HK.out k hlt
          have hbl : b < w.heap.size := World.block_lt_of_cell? w _ e0
          have hB := hS.out.old
          have HZ0 := Lib.hid (And.intro e0 (And.intro e1 (And.intro e2 (And.intro e3 (And.intro e4 e5)))))
          rw [← hB.cell (by exact hbl)] at e0 e1 e2 e3 e4 e5
          have hx : xs.take (k + 1) = xs.take k ++ [xs[k]] := List.take_succ_eq_append_getElem hlt
          have hnk : t ∉ xs.take k := fun h => HM.out (List.mem_of_mem_take h)
          have HX := Lib.hid hx; have HNK := Lib.hid hnk
          clear hx hnk hB
          generalize xs[k] = z at *
          have ST := Lib.hid (PutZ.next (⟨hS.out, ⟨e0, e1, e2, e3, e4, e5⟩⟩ : PutZ w wr t out u6 b (off + k * 6) z) (Below.refl _ wr).drew)
          clear hS e0 e1 e2 e3 e4 e5
          cases d with
          | true =>
            have hI2 := hI.out.over z
            rw [← HX.out] at hI2
            have HI2 := Lib.hid hI2; clear hI2 hI
            obtain ⟨⟨c0, c1, c2, c3, c4, c5⟩, z0, z1, z2, z3, z4, z5⟩ := ST.out.cells
            go_wp2_with fail
            go_region_o
            go_wp2_with (at_builtin; refine wpList_appT ST.out.st rfl _ _ rfl z rfl rfl rfl (by omega) ?_; intro v1 w4 hS4; have HS4 := Lib.hid hS4; clear hS4)
            first
              | exact ⟨⟨k + 1, true, _, by omega, by go_num, rfl, ⟨HS4.out⟩, ⟨HI2.out⟩⟩, by simp [intOf] <;> omega⟩
              | (go_roundw
                 case rel => exact ⟨k + 1, true, _, by omega, by go_num, rfl, ⟨HS4.out⟩, ⟨HI2.out⟩⟩
                 case measure => simp [intOf]; omega)
          | false =>
            have hle := fun W (h : PutZ w W t out u6 b (off + k * 6) z) (r : Bool) (hr : tLess t z = r) => putz_Less h ht hr
            cases hlb : tLess t z with
            | true =>
              have hI2 := hI.out.here HNK.out hlb
              rw [← HX.out] at hI2
              have HI2 := Lib.hid hI2
              have HLE := Lib.hid (fun W h => hle W h true hlb)
              clear hI2 hI hle hlb
              go_wp2_with fail
              go_region_held3 (fun W => (W.cell? ⟨w.heap.size, 0, none⟩ = some (.string t.kind) ∧ W.cell? ⟨w.heap.size, 1, none⟩ = some (.string t.id) ∧ W.cell? ⟨w.heap.size, 2, none⟩ = some (.string t.rel) ∧ W.cell? ⟨w.heap.size, 3, none⟩ = some (.string t.user.kind) ∧ W.cell? ⟨w.heap.size, 4, none⟩ = some (.string t.user.id) ∧ W.cell? ⟨w.heap.size, 5, none⟩ = some (.string t.user.rel)) ∧
                (W.cell? ⟨b, (off + k * 6), none⟩ = some (.string z.kind) ∧ W.cell? ⟨b, (off + k * 6) + 1, none⟩ = some (.string z.id) ∧ W.cell? ⟨b, (off + k * 6) + 2, none⟩ = some (.string z.rel) ∧ W.cell? ⟨b, (off + k * 6) + 3, none⟩ = some (.string z.user.kind) ∧ W.cell? ⟨b, (off + k * 6) + 4, none⟩ = some (.string z.user.id) ∧ W.cell? ⟨b, (off + k * 6) + 5, none⟩ = some (.string z.user.rel)))
                (exact ST.out.cells)
                (first | (go_at_call 44; refine (HLE.out _ ST.out).mono ?_; rintro e W' ⟨rfl, hx⟩; clear ST; have ST := Lib.hid hx; clear hx))
              all_goals
                obtain ⟨c0, c1, c2, c3, c4, c5⟩ := ST.out.st.cells
                go_wp2_with (at_builtin; first
                  | (refine wpList_appT ST.out.st rfl _ _ rfl t rfl rfl rfl (by omega) ?_; intro v1 w4 hS4; have HS4 := Lib.hid hS4; clear hS4; have hc4 := fun o => HS4.out.old.cell (p := ⟨b, o, none⟩) hbl; have z0 := (hc4 _).trans HZ0.out.1; have z1 := (hc4 _).trans HZ0.out.2.1; have z2 := (hc4 _).trans HZ0.out.2.2.1; have z3 := (hc4 _).trans HZ0.out.2.2.2.1; have z4 := (hc4 _).trans HZ0.out.2.2.2.2.1; have z5 := (hc4 _).trans HZ0.out.2.2.2.2.2; clear hc4)
                  | (refine wpList_appT HS4.out rfl _ _ rfl z rfl rfl rfl (by simp; omega) ?_; intro v2 w5 hS5; have HS5 := Lib.hid hS5; clear hS5))
                first
                  | exact ⟨⟨k + 1, true, _, by omega, by go_num, rfl, ⟨HS5.out⟩, ⟨HI2.out⟩⟩, by simp [intOf] <;> omega⟩
                  | (go_roundw
                     case rel => exact ⟨k + 1, true, _, by omega, by go_num, rfl, ⟨HS5.out⟩, ⟨HI2.out⟩⟩
                     case measure => simp [intOf]; omega)
            | false =>
              have hI2 := hI.out.past hlb
              rw [← HX.out] at hI2
              have HI2 := Lib.hid hI2
              have HLE := Lib.hid (fun W h => hle W h false hlb)
              clear hI2 hI hle hlb
              go_wp2_with fail
              go_region_held3 (fun W => (W.cell? ⟨w.heap.size, 0, none⟩ = some (.string t.kind) ∧ W.cell? ⟨w.heap.size, 1, none⟩ = some (.string t.id) ∧ W.cell? ⟨w.heap.size, 2, none⟩ = some (.string t.rel) ∧ W.cell? ⟨w.heap.size, 3, none⟩ = some (.string t.user.kind) ∧ W.cell? ⟨w.heap.size, 4, none⟩ = some (.string t.user.id) ∧ W.cell? ⟨w.heap.size, 5, none⟩ = some (.string t.user.rel)) ∧
                (W.cell? ⟨b, (off + k * 6), none⟩ = some (.string z.kind) ∧ W.cell? ⟨b, (off + k * 6) + 1, none⟩ = some (.string z.id) ∧ W.cell? ⟨b, (off + k * 6) + 2, none⟩ = some (.string z.rel) ∧ W.cell? ⟨b, (off + k * 6) + 3, none⟩ = some (.string z.user.kind) ∧ W.cell? ⟨b, (off + k * 6) + 4, none⟩ = some (.string z.user.id) ∧ W.cell? ⟨b, (off + k * 6) + 5, none⟩ = some (.string z.user.rel)))
                (exact ST.out.cells)
                (first | (go_at_call 44; refine (HLE.out _ ST.out).mono ?_; rintro e W' ⟨rfl, hx⟩; clear ST; have ST := Lib.hid hx; clear hx))
              all_goals
                obtain ⟨z0, z1, z2, z3, z4, z5⟩ := ST.out.zs
                go_wp2_with (at_builtin; refine wpList_appT ST.out.st rfl _ _ rfl z rfl rfl rfl (by omega) ?_; intro v1 w4 hS4; have HS4 := Lib.hid hS4; clear hS4)
                first
                  | exact ⟨⟨k + 1, false, _, by omega, by go_num, rfl, ⟨HS4.out⟩, ⟨HI2.out⟩⟩, by simp [intOf] <;> omega⟩
                  | (go_roundw
                     case rel => exact ⟨k + 1, false, _, by omega, by go_num, rfl, ⟨HS4.out⟩, ⟨HI2.out⟩⟩
                     case measure => simp [intOf]; omega)
        · have hkn : xs.take k = xs := List.take_of_length_le (by omega)
          cases d with
          | true =>
            have hd := hI.out.done
            rw [hkn] at hd
            have HD := Lib.hid hd; clear hd hkn hI
            go_wp2
            go_ret2
            exact ⟨_, rfl, by rw [← HD.out]; exact hS.out.own.rebase (by omega), hS.out.old⟩
          | false =>
            have hd := hI.out.fin (by rw [hkn]; exact HM.out)
            rw [hkn] at hd
            have HD := Lib.hid hd; clear hd hkn hI
            obtain ⟨c0, c1, c2, c3, c4, c5⟩ := hS.out.cells
            go_wp2_with (at_builtin; refine wpList_appT hS.out rfl _ _ rfl t rfl rfl rfl (by omega) ?_; intro v1 w4 hS4; have HS4 := Lib.hid hS4; clear hS4)
            go_ret2
            exact ⟨_, rfl, by rw [← HD.out]; exact HS4.out.own.rebase (by omega), HS4.out.old⟩
end Go.Proofs.YtnfkjodiielidaaGreat

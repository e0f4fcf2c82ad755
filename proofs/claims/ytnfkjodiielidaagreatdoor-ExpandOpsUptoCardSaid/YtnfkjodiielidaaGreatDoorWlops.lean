/- ExpandOps: the walk. -/
import Derived.Test.YtnfkjodiielidaaGreatDoorWawz
namespace Go.Proofs.YtnfkjodiielidaaGreatDoor
set_option linter.unusedVariables false
set_option linter.unusedSimpArgs false
open Go.RowKit

set_option maxRecDepth 100000 in
set_option maxHeartbeats 4000000 in
theorem law_in {A : Nat → Prop} {w : World} {t : LTree} {us ps : Value} (hu : RepD A w (.slice 3 (t.users.map LUser.d)) us) (hp : RepD A w (.slice 3 (t.parts.map LTree.d)) ps) (hn : t.named.length ≤ 1000000000) (u : LUser) :
    Calls Tryz.prog 39 #[.agg #[.string t.op, us, ps], .agg #[.string u.kind, .string u.id, .string u.rel]] w fun e w' => e = .returned (.bool (t.inB u)) ∧ Below w.heap.size w w' := by
  have mixed : Tryz.prog.follows Departure.mixedOrders = true := by kernel_rfl
  obtain ⟨ua, uc, huf⟩ := hu.formM
  obtain ⟨pa, pc, hpf⟩ := hp.formM
  subst huf hpf
  have hB0 : Below w.heap.size w ((w.alloc (.cells #[.string t.op, .slice ua t.users.length uc, .slice pa t.parts.length pc] 32)).alloc (.cells #[.string u.kind, .string u.id, .string u.rel] 25)) := ((Below.refl _ w).alloc (Nat.le_refl _) _).alloc (by simp) _
  have hbu : ((w.alloc (.cells #[.string t.op, .slice ua t.users.length uc, .slice pa t.parts.length pc] 32)).alloc (.cells #[.string u.kind, .string u.id, .string u.rel] 25)).heap[w.heap.size + 1]? = some (.cells #[.string u.kind, .string u.id, .string u.rel] 25) := heap_alloc_at (by simp)
  have hfl := expand_Flat (hu.old hB0) (hp.old hB0) hn
  have hmem : u ∈ t.flat ↔ t.inB u = true := LTree.mem_flat
  have hlen : t.flat.length ≤ 1000000000 := Nat.le_trans (sub_len t.flat t.named (LTree.flat_rising t |>.nodup lin_uLess) fun x hx => LTree.named_of_in x t (LTree.mem_flat.1 hx)) hn
  generalize t.flat = L at *
  generalize t.inB u = r at *
  have HF := Lib.hid hfl; have HB0 := Lib.hid hB0; have HBU := Lib.hid hbu; have HM := Lib.hid hmem
  clear hu hp hB0 hbu hfl hmem
  go_enter Tryz.func39, Tryz.ntmps39
  go_wp2_with fail
  refine HF.out.mono ?_
  rintro e w1 ⟨v, rfl, hO, hb1⟩
  obtain ⟨a, c, rfl, _⟩ := hO.form
  have hB1 := below_past HB0.out hb1
  have hbu1 := (hb1.block _ (Array.getElem?_eq_some_iff.1 HBU.out).1).trans HBU.out
  have hR := hO.users (A := fun _ => True) (fun _ _ => trivial) (by omega)
  obtain ⟨_, _, eu, _, huk⟩ := user_cells hR
  injection eu with eu1 _ eu3
  subst eu1 eu3
  have HB1 := Lib.hid hB1; have HBU1 := Lib.hid hbu1; have HUK := Lib.hid huk
  clear hO hb1 hB1 hbu1 hR huk HF HB0 HBU
  go_wp2
  go_loopw [6] (fun i wr => ∃ k : Nat, k ≤ L.length ∧ i = .int .i64 k ∧ Aside (Below w1.heap.size w1 wr) ∧ Aside (u ∉ L.take k)) (fun i _ => L.length - (intOf i).toNat)
  case atStart => exact ⟨0, by omega, rfl, ⟨Below.refl _ _⟩, ⟨by simp⟩⟩
  case round =>
    obtain ⟨k, hk, rfl, hB, hF⟩ := hrel
    by_cases hlt : k < L.length
    · obtain ⟨b, off, rfl, e0, e1, e2⟩ := HUK.out wr hB.out k hlt
      obtain ⟨c0, c1, c2⟩ := ucells (u := u) ((hB.out.block _ (Array.getElem?_eq_some_iff.1 HBU1.out).1).trans HBU1.out)
      have hx : L.take (k + 1) = L.take k ++ [L[k]] := List.take_succ_eq_append_getElem hlt
      have HX := Lib.hid hx; clear hx
      have hm : L[k] ∈ L := List.getElem_mem hlt
      have HMM := Lib.hid hm; clear hm
      generalize L[k] = x at *
      have heq := user_eql x u
      unfold LUser.val at heq
      by_cases hxy : x = u
      · rw [decide_eq_true hxy] at heq
        have hf : true = r := by have := HM.out.1 (by rw [← hxy]; exact HMM.out); exact this.symm
        have HF := Lib.hid hf; clear hf hxy
        go_wp2_with fail
        go_region_o
        go_wp2
        go_ret
        exact ⟨ret_bool HF.out, HB1.out.trans ((hB.out.drew).mono HB1.out.size)⟩
      · rw [decide_eq_false hxy] at heq
        have hno : u ∉ L.take (k + 1) := by rw [HX.out]; simp only [List.mem_append, List.mem_singleton, not_or]; exact ⟨hF.out, fun e => hxy e.symm⟩
        have HNO := Lib.hid hno; clear hno hxy
        go_wp2_with fail
        go_region_o
        go_wp2
        go_roundw
        case rel => exact ⟨k + 1, by omega, by go_num, ⟨hB.out.drew⟩, ⟨HNO.out⟩⟩
        case measure => simp [intOf]; omega
    · have ht : false = r := by
        have h1 := hF.out
        rw [List.take_of_length_le (by omega)] at h1
        cases r with
        | false => rfl
        | true => exact absurd (HM.out.2 rfl) h1
      have HT := Lib.hid ht; clear ht
      go_wp2
      go_ret
      exact ⟨ret_bool HT.out, HB1.out.trans (hB.out.mono HB1.out.size)⟩
def treeCells (p : LTree × SlV × SlV) : List Value := [.string p.1.op, .slice p.2.1.a p.2.1.n p.2.1.c, .slice p.2.2.a p.2.2.n p.2.2.c]
theorem treeCells_len (p : LTree × SlV × SlV) : (treeCells p).length = 3 := rfl
theorem trees_block {w : World} {b : Nat} {T : TypeId} {A : Nat → Prop} (xs : List (LTree × SlV × SlV)) (hh : w.heap[b]? = some (.cells (xs.flatMap treeCells).toArray T (0, 0))) (hA : A b) (hl : xs.length ≤ 1000)
    (h1 : ∀ p, p ∈ xs → RepD A w (.slice 3 (p.1.users.map LUser.d)) (.slice p.2.1.a p.2.1.n p.2.1.c)) (h2 : ∀ p, p ∈ xs → RepD A w (.slice 3 (p.1.parts.map LTree.d)) (.slice p.2.2.a p.2.2.n p.2.2.c)) :
    RepD A w (.slice 3 ((xs.map (·.1)).map LTree.d)) (.slice (some ⟨b, 0, none⟩) xs.length xs.length) := by
  have ho := own_of_block (base := b) (g := b) (n := xs.length) treeCells_len (w := w) (e := T) xs (Nat.le_refl _) rfl (by simp only [maxLen]; omega) hh
  have := ho.reps (A := A) treeCells_len (fun p => p.1.d) (fun p hp j hj => by
    rw [LTree.d_eq]
    match j, hj with
    | 0, _ => exact .str _
    | 1, _ => exact h1 p hp
    | 2, _ => exact h2 p hp) (fun b' _ hb' => by have : b = b' := Option.some.inj hb'; subst this; exact hA) (by omega)
  rwa [List.map_map]
/-- Where ExpandOps stands. -/
structure OpSt (w W : World) (a b : LTree) (u : LUser) (s1 s2 s3 s4 : SlV) : Prop where
  below : Below w.heap.size w W
  words : WordsAt W
  ba : W.heap[w.heap.size]? = some (.cells #[.string a.op, .slice s1.a s1.n s1.c, .slice s2.a s2.n s2.c] 32)
  bb : W.heap[w.heap.size + 1]? = some (.cells #[.string b.op, .slice s3.a s3.n s3.c, .slice s4.a s4.n s4.c] 32)
  bu : W.heap[w.heap.size + 1 + 1]? = some (.cells #[.string u.kind, .string u.id, .string u.rel] 25)
  r1 : RepD (fun _ => True) W (.slice 3 (a.users.map LUser.d)) (.slice s1.a s1.n s1.c)
  r2 : RepD (fun _ => True) W (.slice 3 (a.parts.map LTree.d)) (.slice s2.a s2.n s2.c)
  r3 : RepD (fun _ => True) W (.slice 3 (b.users.map LUser.d)) (.slice s3.a s3.n s3.c)
  r4 : RepD (fun _ => True) W (.slice 3 (b.parts.map LTree.d)) (.slice s4.a s4.n s4.c)
section
variable {w W W' : World} {a b : LTree} {u : LUser} {s1 s2 s3 s4 : SlV}
theorem OpSt.next (h : OpSt w W a b u s1 s2 s3 s4) (hb : Below W.heap.size W W') : OpSt w W' a b u s1 s2 s3 s4 :=
  ⟨below_past h.below hb, h.words.old hb, (hb.block _ (Array.getElem?_eq_some_iff.1 h.ba).1).trans h.ba, (hb.block _ (Array.getElem?_eq_some_iff.1 h.bb).1).trans h.bb, (hb.block _ (Array.getElem?_eq_some_iff.1 h.bu).1).trans h.bu, h.r1.old hb, h.r2.old hb, h.r3.old hb, h.r4.old hb⟩
theorem tcells {op : ByteArray} {s1 s2 : SlV} {n : Nat} {T : TypeId} (h : W.heap[n]? = some (.cells #[.string op, .slice s1.a s1.n s1.c, .slice s2.a s2.n s2.c] T)) : W.cell? ⟨n, 0, none⟩ = some (.string op) ∧ W.cell? ⟨n, 1, none⟩ = some (.slice s1.a s1.n s1.c) ∧ W.cell? ⟨n, 2, none⟩ = some (.slice s2.a s2.n s2.c) := by
  refine ⟨?_, ?_, ?_⟩ <;> simp [World.cell?, h]
theorem OpSt.cells (h : OpSt w W a b u s1 s2 s3 s4) : (W.cell? ⟨w.heap.size, 0, none⟩ = some (.string a.op) ∧ W.cell? ⟨w.heap.size, 1, none⟩ = some (.slice s1.a s1.n s1.c) ∧ W.cell? ⟨w.heap.size, 2, none⟩ = some (.slice s2.a s2.n s2.c)) ∧
    (W.cell? ⟨w.heap.size + 1, 0, none⟩ = some (.string b.op) ∧ W.cell? ⟨w.heap.size + 1, 1, none⟩ = some (.slice s3.a s3.n s3.c) ∧ W.cell? ⟨w.heap.size + 1, 2, none⟩ = some (.slice s4.a s4.n s4.c)) ∧
    (W.cell? ⟨w.heap.size + 1 + 1, 0, none⟩ = some (.string u.kind) ∧ W.cell? ⟨w.heap.size + 1 + 1, 1, none⟩ = some (.string u.id) ∧ W.cell? ⟨w.heap.size + 1 + 1, 2, none⟩ = some (.string u.rel)) := ⟨tcells h.ba, tcells h.bb, ucells (u := u) h.bu⟩
theorem op_awake (h : OpSt w W a b u s1 s2 s3 s4) : Calls Tryz.prog 16 #[] W fun e W' => e = .returned (.bool true) ∧ OpSt w W' a b u s1 s2 s3 s4 := by
  refine (awake15 W h.words).mono ?_
  rintro e W' ⟨rfl, hb⟩
  exact ⟨rfl, h.next hb⟩
theorem op_FewA (h : OpSt w W a b u s1 s2 s3 s4) : Calls Tryz.prog 26 #[.agg #[.string a.op, .slice s1.a s1.n s1.c, .slice s2.a s2.n s2.c], .int .i64 10] W fun e W' => e = .returned (.bool (LTree.few 10 a)) ∧ OpSt w W' a b u s1 s2 s3 s4 := by
  refine (ref_Few15 10 (by omega) a _ W _ _ h.r1 h.r2).mono ?_
  rintro e W' ⟨rfl, hb⟩
  exact ⟨rfl, h.next hb⟩
theorem op_FewB (h : OpSt w W a b u s1 s2 s3 s4) : Calls Tryz.prog 26 #[.agg #[.string b.op, .slice s3.a s3.n s3.c, .slice s4.a s4.n s4.c], .int .i64 10] W fun e W' => e = .returned (.bool (LTree.few 10 b)) ∧ OpSt w W' a b u s1 s2 s3 s4 := by
  refine (ref_Few15 10 (by omega) b _ W _ _ h.r3 h.r4).mono ?_
  rintro e W' ⟨rfl, hb⟩
  exact ⟨rfl, h.next hb⟩
theorem op_SizeA (h : OpSt w W a b u s1 s2 s3 s4) (hn : a.natSize ≤ 1048576) : Calls Tryz.prog 27 #[.agg #[.string a.op, .slice s1.a s1.n s1.c, .slice s2.a s2.n s2.c]] W fun e W' => e = .returned (.int .i64 a.natSize) ∧ OpSt w W' a b u s1 s2 s3 s4 := by
  refine (ref_Size15 a (by omega) _ W _ _ h.r1 h.r2).mono ?_
  rintro e W' ⟨rfl, hb⟩
  exact ⟨rfl, h.next hb⟩
theorem op_SizeB (h : OpSt w W a b u s1 s2 s3 s4) (hn : b.natSize ≤ 1048576) : Calls Tryz.prog 27 #[.agg #[.string b.op, .slice s3.a s3.n s3.c, .slice s4.a s4.n s4.c]] W fun e W' => e = .returned (.int .i64 b.natSize) ∧ OpSt w W' a b u s1 s2 s3 s4 := by
  refine (ref_Size15 b (by omega) _ W _ _ h.r3 h.r4).mono ?_
  rintro e W' ⟨rfl, hb⟩
  exact ⟨rfl, h.next hb⟩
theorem op_inA (h : OpSt w W a b u s1 s2 s3 s4) (hn : a.named.length ≤ 100000000) {x : Bool} (hx : a.inB u = x) : Calls Tryz.prog 39 #[.agg #[.string a.op, .slice s1.a s1.n s1.c, .slice s2.a s2.n s2.c], .agg #[.string u.kind, .string u.id, .string u.rel]] W fun e W' => e = .returned (.bool x) ∧ OpSt w W' a b u s1 s2 s3 s4 := by
  subst hx
  refine (law_in h.r1 h.r2 (by omega) u).mono ?_
  rintro e W' ⟨rfl, hb⟩
  exact ⟨rfl, h.next hb⟩
theorem op_inB (h : OpSt w W a b u s1 s2 s3 s4) (hn : b.named.length ≤ 100000000) {x : Bool} (hx : b.inB u = x) : Calls Tryz.prog 39 #[.agg #[.string b.op, .slice s3.a s3.n s3.c, .slice s4.a s4.n s4.c], .agg #[.string u.kind, .string u.id, .string u.rel]] W fun e W' => e = .returned (.bool x) ∧ OpSt w W' a b u s1 s2 s3 s4 := by
  subst hx
  refine (law_in h.r3 h.r4 (by omega) u).mono ?_
  rintro e W' ⟨rfl, hb⟩
  exact ⟨rfl, h.next hb⟩
/-- A tree of both. -/
theorem op_both (h : OpSt w W a b u s1 s2 s3 s4) {tb : Nat} (hk : W.heap[tb]? = some (.cells #[.string a.op, .slice s1.a s1.n s1.c, .slice s2.a s2.n s2.c, .string b.op, .slice s3.a s3.n s3.c, .slice s4.a s4.n s4.c] 32)) (hna : a.named.length ≤ 100000000) (hnb : b.named.length ≤ 100000000) (o : ByteArray) {x : Bool} (hx : (LTree.mk o [] [a, b]).inB u = x) :
    Calls Tryz.prog 39 #[.agg #[.string o, .slice none 0 0, .slice (some ⟨tb, 0, none⟩) 2 2], .agg #[.string u.kind, .string u.id, .string u.rel]] W fun e W' => e = .returned (.bool x) ∧ OpSt w W' a b u s1 s2 s3 s4 ∧ W'.heap[tb]? = some (.cells #[.string a.op, .slice s1.a s1.n s1.c, .slice s2.a s2.n s2.c, .string b.op, .slice s3.a s3.n s3.c, .slice s4.a s4.n s4.c] 32) := by
  subst hx
  have hp : RepD (fun _ => True) W (.slice 3 ([a, b].map LTree.d)) (.slice (some ⟨tb, 0, none⟩) 2 2) := trees_block (A := fun _ => True) [(a, s1, s2), (b, s3, s4)] hk trivial (by simp) (fun p hp => by
    rcases List.mem_cons.1 hp with rfl | hp
    · exact h.r1
    · obtain rfl : p = (b, s3, s4) := by simpa using hp
      exact h.r3) (fun p hp => by
    rcases List.mem_cons.1 hp with rfl | hp
    · exact h.r2
    · obtain rfl : p = (b, s3, s4) := by simpa using hp
      exact h.r4)
  refine (law_in (t := .mk o [] [a, b]) (us := .slice none 0 0) (.nil _ _ _) hp (by rw [LTree.named_eq]; simp [LTree.users, LTree.parts]; omega) u).mono ?_
  rintro e W' ⟨rfl, hb⟩
  exact ⟨rfl, h.next hb, (hb.block _ (Array.getElem?_eq_some_iff.1 hk).1).trans hk⟩
/-- A tree that names the user alone. -/
theorem op_one (h : OpSt w W a b u s1 s2 s3 s4) (o : ByteArray) {x : Bool} (hx : (LTree.mk o [u] []).inB u = x) :
    Calls Tryz.prog 39 #[.agg #[.string o, .slice (some ⟨W.heap.size, 0, none⟩) 1 1, .slice none 0 0], .agg #[.string u.kind, .string u.id, .string u.rel]] (W.alloc (.cells #[.string u.kind, .string u.id, .string u.rel] 25)) fun e W' => e = .returned (.bool x) ∧ OpSt w W' a b u s1 s2 s3 s4 := by
  subst hx
  have hu : RepD (fun _ => True) (W.alloc (.cells #[.string u.kind, .string u.id, .string u.rel] 25)) (.slice 3 ([u].map LUser.d)) (.slice (some ⟨W.heap.size, 0, none⟩) 1 1) :=
    (own_of_block (base := 0) LUser.len [u] (Nat.zero_le _) rfl (by simp [maxLen]) (heap_alloc_at rfl)).users (fun _ _ => trivial) (by simp)
  refine (law_in (t := .mk o [u] []) (ps := .slice none 0 0) hu (.nil _ _ _) (by rw [LTree.named_eq]; simp [LTree.users, LTree.parts]) u).mono ?_
  rintro e W' ⟨rfl, hb⟩
  exact ⟨rfl, h.next (below_past ((Below.refl _ _).alloc (Nat.le_refl _) _) hb)⟩
end
theorem in_or (a b : LTree) (u : LUser) : (LTree.mk sOr [] [a, b]).inB u = (a.inB u || b.inB u) := by
  rw [LTree.inB_eq, LTree.op, LTree.users, LTree.parts, LTree.in1, if_pos rfl]; simp
theorem in_and (a b : LTree) (u : LUser) : (LTree.mk sAnd [] [a, b]).inB u = (a.inB u && b.inB u) := by
  rw [LTree.inB_eq, LTree.op, LTree.users, LTree.parts, LTree.in1, if_neg (by decide +kernel), if_pos rfl]; simp
theorem in_but (a b : LTree) (u : LUser) : (LTree.mk sBut [] [a, b]).inB u = (a.inB u && !b.inB u) := by
  rw [LTree.inB_eq, LTree.op, LTree.users, LTree.parts, LTree.in1, if_neg (by decide +kernel), if_neg (by decide +kernel), if_pos rfl]; simp
theorem in_none (u : LUser) : (LTree.mk sNone [u] []).inB u = false := by
  rw [LTree.inB_eq, LTree.op, LTree.users, LTree.parts, LTree.in1, if_neg (by decide +kernel), if_neg (by decide +kernel), if_neg (by decide +kernel)]
theorem in_one (u : LUser) : (LTree.mk sOr [u] []).inB u = true := by
  rw [LTree.inB_eq, LTree.op, LTree.users, LTree.parts, LTree.in1, if_pos rfl]; simp
set_option maxRecDepth 100000 in
set_option maxHeartbeats 20000000 in
theorem ops_walk {w : World} {a b : LTree} {u : LUser} {v1 v2 v3 v4 : Value} (hw : WordsAt w) (h1 : RepD (fun _ => True) w (.slice 3 (a.users.map LUser.d)) v1) (h2 : RepD (fun _ => True) w (.slice 3 (a.parts.map LTree.d)) v2) (h3 : RepD (fun _ => True) w (.slice 3 (b.users.map LUser.d)) v3) (h4 : RepD (fun _ => True) w (.slice 3 (b.parts.map LTree.d)) v4) (ha : a.natSize ≤ 1048576) (hb : b.natSize ≤ 1048576) :
    Calls Tryz.prog 8 #[.agg #[.string a.op, v1, v2], .agg #[.string b.op, v3, v4], u.val] w fun e w' => e = .returned (.bool true) ∧ Below w.heap.size w w' := by
  obtain ⟨a1, c1, e1⟩ := h1.formM
  obtain ⟨a2, c2, e2⟩ := h2.formM
  obtain ⟨a3, c3, e3⟩ := h3.formM
  obtain ⟨a4, c4, e4⟩ := h4.formM
  subst e1 e2 e3 e4
  obtain ⟨s1, hs1⟩ : ∃ s : SlV, s = ⟨a1, a.users.length, c1⟩ := ⟨_, rfl⟩
  obtain ⟨s2, hs2⟩ : ∃ s : SlV, s = ⟨a2, a.parts.length, c2⟩ := ⟨_, rfl⟩
  obtain ⟨s3, hs3⟩ : ∃ s : SlV, s = ⟨a3, b.users.length, c3⟩ := ⟨_, rfl⟩
  obtain ⟨s4, hs4⟩ : ∃ s : SlV, s = ⟨a4, b.parts.length, c4⟩ := ⟨_, rfl⟩
  have q1 : Value.slice a1 a.users.length c1 = .slice s1.a s1.n s1.c := by rw [hs1]
  have q2 : Value.slice a2 a.parts.length c2 = .slice s2.a s2.n s2.c := by rw [hs2]
  have q3 : Value.slice a3 b.users.length c3 = .slice s3.a s3.n s3.c := by rw [hs3]
  have q4 : Value.slice a4 b.parts.length c4 = .slice s4.a s4.n s4.c := by rw [hs4]
  rw [q1] at h1 ⊢
  rw [q2] at h2 ⊢
  rw [q3] at h3 ⊢
  rw [q4] at h4 ⊢
  clear q1 q2 q3 q4 hs1 hs2 hs3 hs4
  have hB : Below w.heap.size w (((w.alloc (.cells #[.string a.op, .slice s1.a s1.n s1.c, .slice s2.a s2.n s2.c] 32)).alloc (.cells #[.string b.op, .slice s3.a s3.n s3.c, .slice s4.a s4.n s4.c] 32)).alloc (.cells #[.string u.kind, .string u.id, .string u.rel] 25)) := (((Below.refl _ w).alloc (Nat.le_refl _) _).alloc (by simp) _).alloc (by simp; omega) _
  have st0 : OpSt w (((w.alloc (.cells #[.string a.op, .slice s1.a s1.n s1.c, .slice s2.a s2.n s2.c] 32)).alloc (.cells #[.string b.op, .slice s3.a s3.n s3.c, .slice s4.a s4.n s4.c] 32)).alloc (.cells #[.string u.kind, .string u.id, .string u.rel] 25)) a b u s1 s2 s3 s4 :=
    ⟨hB, hw.old hB, (Below.heap_alloc _ _ _ (by simp; omega)).trans (heap_alloc2 rfl), heap_alloc2 (by simp), heap_alloc_at (by simp), h1.old hB, h2.old hB, h3.old hB, h4.old hB⟩
  have ST := Lib.hid st0
  clear st0 hB hw h1 h2 h3 h4
  have f1 := fun W (h : OpSt w W a b u s1 s2 s3 s4) => op_FewA h
  have f2 := fun W (h : OpSt w W a b u s1 s2 s3 s4) => op_FewB h
  have f3 := fun W (h : OpSt w W a b u s1 s2 s3 s4) => op_SizeA h ha
  have f4 := fun W (h : OpSt w W a b u s1 s2 s3 s4) => op_SizeB h hb
  have hna := LTree.few_named 10 a
  have hnb := LTree.few_named 10 b
  generalize LTree.few 10 a = g1 at *
  generalize LTree.few 10 b = g2 at *
  obtain ⟨n1, hn1⟩ : ∃ n, n = a.natSize := ⟨_, rfl⟩
  obtain ⟨n2, hn2⟩ : ∃ n, n = b.natSize := ⟨_, rfl⟩
  rw [← hn1] at f3 hna ha
  rw [← hn2] at f4 hnb hb
  have F1 := Lib.hid f1; have F2 := Lib.hid f2; have F3 := Lib.hid f3; have F4 := Lib.hid f4; have HNA := Lib.hid hna; have HNB := Lib.hid hnb
  clear f1 f2 f3 f4 hna hnb hn1 hn2
  unfold LUser.val
  by_cases hgood : g1 = true ∧ g2 = true ∧ n1 ≤ 300 ∧ n2 ≤ 300
  · obtain ⟨rfl, rfl, k1, k2⟩ := hgood
    have hna := HNA.out rfl
    have hnb := HNB.out rfl
    have hna2 : a.named.length ≤ 100000000 := by omega
    have hnb2 : b.named.length ≤ 100000000 := by omega
    obtain ⟨x, hx⟩ : ∃ x, a.inB u = x := ⟨_, rfl⟩
    obtain ⟨y, hy⟩ : ∃ y, b.inB u = y := ⟨_, rfl⟩
    have i1 := fun W (h : OpSt w W a b u s1 s2 s3 s4) => op_inA h hna2 hx
    have i2 := fun W (h : OpSt w W a b u s1 s2 s3 s4) => op_inB h hnb2 hy
    have hor := in_or a b u
    have hand := in_and a b u
    have hbut := in_but a b u
    rw [hx, hy] at hor hand hbut
    have i3 := fun W (h : OpSt w W a b u s1 s2 s3 s4) tb hk => op_both h (tb := tb) hk hna2 hnb2 (⟨#[111, 114]⟩ : ByteArray) hor
    have i4 := fun W (h : OpSt w W a b u s1 s2 s3 s4) tb hk => op_both h (tb := tb) hk hna2 hnb2 (⟨#[97, 110, 100]⟩ : ByteArray) hand
    have i5 := fun W (h : OpSt w W a b u s1 s2 s3 s4) tb hk => op_both h (tb := tb) hk hna2 hnb2 (⟨#[98, 117, 116]⟩ : ByteArray) hbut
    have i6 := fun W (h : OpSt w W a b u s1 s2 s3 s4) => op_one h (⟨#[110, 111, 110, 101]⟩ : ByteArray) (in_none u)
    have i7 := fun W (h : OpSt w W a b u s1 s2 s3 s4) => op_one h (⟨#[111, 114]⟩ : ByteArray) (in_one u)
    have I1 := Lib.hid i1; have I2 := Lib.hid i2; have I3 := Lib.hid i3; have I4 := Lib.hid i4; have I5 := Lib.hid i5; have I6 := Lib.hid i6; have I7 := Lib.hid i7
    clear i1 i2 i3 i4 i5 i6 i7 hor hand hbut hx hy hna hnb hna2 hnb2
    go_enter Tryz.func8, Tryz.ntmps8
    go_wp2_with (first
      | (go_at_call 16; with_reducible refine (op_awake ST.out).mono ?_; rintro r w3 ⟨rfl, hx⟩; clear ST; have ST := Lib.hid hx; obtain ⟨⟨z0, z1, z2⟩, ⟨z3, z4, z5⟩, z6, z7, z8⟩ := hx.cells; clear hx)
      | (go_at_call 26; with_reducible refine (F1.out _ ST.out).mono ?_; rintro r w4 ⟨rfl, hx⟩; clear ST; have ST := Lib.hid hx; obtain ⟨⟨z0, z1, z2⟩, ⟨z3, z4, z5⟩, z6, z7, z8⟩ := hx.cells; clear hx)
      | (go_at_call 26; with_reducible refine (F2.out _ ST.out).mono ?_; rintro r w5 ⟨rfl, hx⟩; clear ST; have ST := Lib.hid hx; obtain ⟨⟨z0, z1, z2⟩, ⟨z3, z4, z5⟩, z6, z7, z8⟩ := hx.cells; clear hx)
      | (go_at_call 27; with_reducible refine (F3.out _ ST.out).mono ?_; rintro r w6 ⟨rfl, hx⟩; clear ST; have ST := Lib.hid hx; obtain ⟨⟨z0, z1, z2⟩, ⟨z3, z4, z5⟩, z6, z7, z8⟩ := hx.cells; clear hx)
      | (go_at_call 27; with_reducible refine (F4.out _ ST.out).mono ?_; rintro r w7 ⟨rfl, hx⟩; clear ST; have ST := Lib.hid hx; obtain ⟨⟨z0, z1, z2⟩, ⟨z3, z4, z5⟩, z6, z7, z8⟩ := hx.cells; clear hx))
    go_region_held3 (fun W => (W.cell? ⟨w.heap.size, 0, none⟩ = some (.string a.op) ∧ W.cell? ⟨w.heap.size, 1, none⟩ = some (.slice s1.a s1.n s1.c) ∧ W.cell? ⟨w.heap.size, 2, none⟩ = some (.slice s2.a s2.n s2.c)) ∧
        (W.cell? ⟨w.heap.size + 1, 0, none⟩ = some (.string b.op) ∧ W.cell? ⟨w.heap.size + 1, 1, none⟩ = some (.slice s3.a s3.n s3.c) ∧ W.cell? ⟨w.heap.size + 1, 2, none⟩ = some (.slice s4.a s4.n s4.c)) ∧
        (W.cell? ⟨w.heap.size + 1 + 1, 0, none⟩ = some (.string u.kind) ∧ W.cell? ⟨w.heap.size + 1 + 1, 1, none⟩ = some (.string u.id) ∧ W.cell? ⟨w.heap.size + 1 + 1, 2, none⟩ = some (.string u.rel)))
      (first | exact ST.out.cells | exact (ST.out.next (Below.refl _ _).drew).cells)
      (first
        | (go_at_call 39; with_reducible refine (I1.out _ (ST.out.next (Below.refl _ _).drew)).mono ?_; rintro r w8 ⟨rfl, hx⟩; clear ST; have ST := Lib.hid hx; clear hx)
        | (go_at_call 39; with_reducible refine (I2.out _ (ST.out.next (Below.refl _ _).drew)).mono ?_; rintro r w8 ⟨rfl, hx⟩; clear ST; have ST := Lib.hid hx; clear hx)
        | (go_at_call 39; with_reducible refine (I1.out _ ST.out).mono ?_; rintro r w8 ⟨rfl, hx⟩; clear ST; have ST := Lib.hid hx; clear hx)
        | (go_at_call 39; with_reducible refine (I2.out _ ST.out).mono ?_; rintro r w8 ⟨rfl, hx⟩; clear ST; have ST := Lib.hid hx; clear hx))
    all_goals
      clear z0 z1 z2 z3 z4 z5 z6 z7 z8 I1 I2
      obtain ⟨⟨z0, z1, z2⟩, ⟨z3, z4, z5⟩, z6, z7, z8⟩ := ST.out.cells
      have hx := ST.out.next ((Below.refl w8.heap.size w8).alloc (Nat.le_refl _) (.cells #[.string a.op, .slice s1.a s1.n s1.c, .slice s2.a s2.n s2.c, .string b.op, .slice s3.a s3.n s3.c, .slice s4.a s4.n s4.c] 32))
      have hk : (w8.alloc (.cells #[.string a.op, .slice s1.a s1.n s1.c, .slice s2.a s2.n s2.c, .string b.op, .slice s3.a s3.n s3.c, .slice s4.a s4.n s4.c] 32)).heap[w8.heap.size]? = some (.cells #[.string a.op, .slice s1.a s1.n s1.c, .slice s2.a s2.n s2.c, .string b.op, .slice s3.a s3.n s3.c, .slice s4.a s4.n s4.c] 32) := heap_alloc_at rfl
      have hsz8 := (Array.getElem?_eq_some_iff.1 ST.out.bu).1
      have hne8 : w.heap.size + 1 + 1 ≠ w8.heap.size := by omega
      clear ST
      have ST := Lib.hid hx; have HK := Lib.hid hk
      clear hx hk
      cases x <;> cases y
      all_goals
        go_wp2_with (first
          | (go_at_call 39; with_reducible refine (I3.out _ ST.out _ HK.out).mono ?_; rintro r w10 ⟨rfl, hx, hk⟩; have hn10 := (Array.getElem?_eq_some_iff.1 hx.bu).1; clear ST HK; have ST := Lib.hid hx; have HK := Lib.hid hk; obtain ⟨⟨z0, z1, z2⟩, ⟨z3, z4, z5⟩, z6, z7, z8⟩ := hx.cells; clear hx hk)
          | (go_at_call 39; with_reducible refine (I4.out _ ST.out _ HK.out).mono ?_; rintro r w10 ⟨rfl, hx, hk⟩; have hn10 := (Array.getElem?_eq_some_iff.1 hx.bu).1; clear ST HK; have ST := Lib.hid hx; have HK := Lib.hid hk; obtain ⟨⟨z0, z1, z2⟩, ⟨z3, z4, z5⟩, z6, z7, z8⟩ := hx.cells; clear hx hk)
          | (go_at_call 39; with_reducible refine (I5.out _ ST.out _ HK.out).mono ?_; rintro r w10 ⟨rfl, hx, hk⟩; have hn10 := (Array.getElem?_eq_some_iff.1 hx.bu).1; clear ST HK; have ST := Lib.hid hx; have HK := Lib.hid hk; obtain ⟨⟨z0, z1, z2⟩, ⟨z3, z4, z5⟩, z6, z7, z8⟩ := hx.cells; clear hx hk)
          | (go_at_call 39; with_reducible refine (I6.out _ ST.out).mono ?_; rintro r w10 ⟨rfl, hx⟩; have hn10 := (Array.getElem?_eq_some_iff.1 hx.bu).1; clear ST; have ST := Lib.hid hx; obtain ⟨⟨z0, z1, z2⟩, ⟨z3, z4, z5⟩, z6, z7, z8⟩ := hx.cells; clear hx)
          | (go_at_call 39; with_reducible refine (I7.out _ ST.out).mono ?_; rintro r w10 ⟨rfl, hx⟩; have hn10 := (Array.getElem?_eq_some_iff.1 hx.bu).1; clear ST; have ST := Lib.hid hx; obtain ⟨⟨z0, z1, z2⟩, ⟨z3, z4, z5⟩, z6, z7, z8⟩ := hx.cells; clear hx))
        go_ret
        exact ⟨rfl, ST.out.below⟩
  · have hbad : (g1 = false) ∨ (g1 = true ∧ g2 = false) ∨ (g1 = true ∧ g2 = true ∧ 300 < n1) ∨ (g1 = true ∧ g2 = true ∧ n1 ≤ 300 ∧ 300 < n2) := by
      cases g1 <;> cases g2 <;> simp at hgood ⊢ <;> omega
    clear hgood HNA HNB
    rcases hbad with rfl | ⟨rfl, rfl⟩ | ⟨rfl, rfl, k1⟩ | ⟨rfl, rfl, k1, k2⟩
    all_goals
      go_enter Tryz.func8, Tryz.ntmps8
      go_wp2_with (first
        | (go_at_call 16; with_reducible refine (op_awake ST.out).mono ?_; rintro r w3 ⟨rfl, hx⟩; clear ST; have ST := Lib.hid hx; obtain ⟨⟨z0, z1, z2⟩, ⟨z3, z4, z5⟩, z6, z7, z8⟩ := hx.cells; clear hx)
        | (go_at_call 26; with_reducible refine (F1.out _ ST.out).mono ?_; rintro r w4 ⟨rfl, hx⟩; clear ST; have ST := Lib.hid hx; obtain ⟨⟨z0, z1, z2⟩, ⟨z3, z4, z5⟩, z6, z7, z8⟩ := hx.cells; clear hx)
        | (go_at_call 26; with_reducible refine (F2.out _ ST.out).mono ?_; rintro r w5 ⟨rfl, hx⟩; clear ST; have ST := Lib.hid hx; obtain ⟨⟨z0, z1, z2⟩, ⟨z3, z4, z5⟩, z6, z7, z8⟩ := hx.cells; clear hx)
        | (go_at_call 27; with_reducible refine (F3.out _ ST.out).mono ?_; rintro r w6 ⟨rfl, hx⟩; clear ST; have ST := Lib.hid hx; obtain ⟨⟨z0, z1, z2⟩, ⟨z3, z4, z5⟩, z6, z7, z8⟩ := hx.cells; clear hx)
        | (go_at_call 27; with_reducible refine (F4.out _ ST.out).mono ?_; rintro r w7 ⟨rfl, hx⟩; clear ST; have ST := Lib.hid hx; obtain ⟨⟨z0, z1, z2⟩, ⟨z3, z4, z5⟩, z6, z7, z8⟩ := hx.cells; clear hx))
      go_ret
      exact ⟨rfl, ST.out.below⟩
end Go.Proofs.YtnfkjodiielidaaGreatDoor

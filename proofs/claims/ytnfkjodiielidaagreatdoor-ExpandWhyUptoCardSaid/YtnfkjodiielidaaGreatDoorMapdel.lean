/- Maps of users: a pair struck while the map is ranged over; the sets of users that lie in maps. -/
-- needs expand.set
/- Sets of users: one copied into another; some struck. -/
import Derived.Test.YtnfkjodiielidaaGreatDoorWwhich
namespace Go.Proofs.YtnfkjodiielidaaGreatDoor
set_option linter.unusedVariables false
set_option linter.unusedSimpArgs false
open Go.RowKit

theorem eraseIdx_filter {α : Type} (p : α → Bool) (l : List α) : ∀ (j : Nat), (∀ x, l[j]? = some x → p x = false) → (l.eraseIdx j).filter p = l.filter p := by
  induction l with
  | nil => intro j _; simp
  | cons a l ih =>
    intro j h
    cases j with
    | zero => simp [h a (by simp)]
    | succ j =>
      simp only [List.eraseIdx_cons_succ, List.filter_cons]
      rw [ih j (fun x hx => h x (by simpa using hx))]
section
variable {α β : Type} [DecidableEq α]
variable {P : Program} {kt : TypeId} {enc : α → Value} {ve : β → Value}
theorem KeyT.inj (K : KeyT P kt enc) {x y : α} (h : enc x = enc y) : x = y := by
  have w : World := default
  have h1 := K.eq w x x
  have h2 := K.eq w x y
  rw [← h, h1] at h2
  simpa using h2
theorem IterAt.delete (K : KeyT P kt enc) {mt et ty : TypeId} {ats : Array TypeId} (ha : ats[0]? = some mt) (hm : P.underlying mt = some (.map kt et)) {w : World} {ib mb : Nat} {S left : List (α × β)} (h : IterAt w ib mb enc ve S left) (k : α) (hk : k ∉ left.map (·.1)) :
    ∃ o, (Builtin.delete_ ats ty #[.map (some mb), enc k]).run P w = .ok (.tuple #[]) (setB w mb o) ∧ IterAt (setB w mb o) ib mb enc ve (delM k S) left := by
  have hlt := h.map.lt
  obtain ⟨es, clock, since, seen, hne, hb, ho, hi, h1, h2, h3⟩ := h
  unfold Builtin.delete_
  simp only [ha, List.getElem?_toArray, List.getElem?_cons_zero, List.getElem?_cons_succ, Sem.run_bind, run_underlying hm, Result.andThen_ok, run_getObj_map hb, K.check, run_findKey K w k es.toList S ho.ents]
  cases hs : seek k S 0 with
  | none =>
    refine ⟨.map es clock, ?_, es, clock, since, seen, hne, setB_same hlt, ?_, (setB_other hne).trans hi, h1, h2, h3⟩
    · simp only [Option.map_none, Sem.run_bind, run_setObj_map hb, Result.andThen_ok, Sem.run_pure]
    · have : delM k S = S := by
        have h1 : k ∉ S.map (·.1) := look_none.1 (by simp [look, hs])
        clear hs ho h3
        induction S with
        | nil => rfl
        | cons p S ih => simp at h1; unfold delM; rw [if_neg h1.1, ih (by simpa using h1.2)]
      rw [this]; exact ho
  | some q =>
    obtain ⟨j, u⟩ := q
    have e : (es.eraseIdxIfInBounds j).toList = es.toList.eraseIdx j := by
      rw [Array.eraseIdxIfInBounds]
      split
      · simp
      · rename_i hj; rw [List.eraseIdx_of_length_le]; simpa using hj
    refine ⟨.map (es.eraseIdxIfInBounds j) clock, ?_, _, clock, since, seen, hne, setB_same hlt, ?_, (setB_other hne).trans hi, ?_, h2, ?_⟩
    · simp only [Option.map_some, Sem.run_bind, run_setObj_map hb, Result.andThen_ok, Sem.run_pure]
    · refine ⟨by rw [e]; exact ents_erase ho.ents k j u hs, ?_, ?_, ?_⟩
      · rw [delM_keys]; exact ho.nodup.erase _
      · rw [e]; exact List.Pairwise.sublist (List.eraseIdx_sublist _ _) ho.born
      · intro x hx; rw [e] at hx; exact ho.clock x ((List.eraseIdx_sublist _ _).mem hx)
    · intro x hx; rw [e] at hx; exact h1 x ((List.eraseIdx_sublist _ _).mem hx)
    · have e2 : (leftOf (es.eraseIdxIfInBounds j) seen).toList = (leftOf es seen).toList := by
        unfold leftOf
        rw [Array.toList_filter, Array.toList_filter, e]
        refine eraseIdx_filter _ _ _ fun x hx => ?_
        refine Classical.byContradiction fun hc => hk ?_
        have hkey := ents_keyAt ho.ents k j u hs
        rw [hx] at hkey
        simp only [Option.map_some, Option.getD_some] at hkey
        have hmem : x ∈ (leftOf es seen).toList := by
          unfold leftOf
          rw [Array.toList_filter, List.mem_filter]
          exact ⟨List.mem_of_getElem? hx, by simpa using hc⟩
        obtain ⟨p, hp, e3, _⟩ := ents_mem h3 hmem
        rw [hkey] at e3
        rw [K.inj e3]
        exact List.mem_map.2 ⟨p, hp, rfl⟩
      rw [e2]; exact h3
end
/-! ### Sets of users -/
theorem check_user (w : World) (e : Bool) (a b c : ByteArray) : (Instr.checkKey e 10000 25 (.agg #[.string a, .string b, .string c])).run Tryz.prog w = .ok () w := by kernel_rfl
theorem bits_user (a b c : ByteArray) : Instr.sameBits 10000 (.agg #[.string a, .string b, .string c]) (.agg #[.string a, .string b, .string c]) = true := by
  rw [show (10000 : Nat) = 9999 + 1 from rfl]
  simp only [Instr.sameBits, List.size_toArray, List.length_cons, List.length_nil, beq_self_eq_true, Bool.true_and, List.zip_cons_cons, List.zip_nil_right, List.all_cons, List.all_nil, bytes_beq]
set_option maxRecDepth 100000 in
theorem eq_user (x y : LUser) (w : World) : (Op.equal 25 x.val y.val).run Tryz.prog w = .ok (decide (x = y)) w := by
  obtain ⟨a, b, c⟩ := x
  obtain ⟨a', b', c'⟩ := y
  unfold LUser.val
  simp only [Op.equal, Op.maxDepth]
  have hS : Tryz.prog.underlying 25 = some (.struct (Tryz.prog.fieldsOf 25)) := by kernel_rfl
  have hp : Tryz.prog.stoodInHeld 25 = false := by kernel_rfl
  rw [show (10000 : Nat) = 9999 + 1 from rfl, run_equalIn_struct w 9999 _ _ _ hS hp]
  clear hS hp
  simp only [Program.fieldsOf, Tryz.underlying25]
  go_simp
  simp only [toList_eq_iff]
  by_cases h1 : a = a' <;> by_cases h2 : b = b' <;> by_cases h3 : c = c' <;> simp only [h1, h2, h3, if_true, if_false, decide_true, decide_false, Bool.and_true, Bool.and_false]
theorem keyT_user : KeyT Tryz.prog 25 LUser.val where
  check w b x := check_user w b x.kind x.id x.rel
  eq w x y := eq_user x y w
  now := ⟨_, Tryz.underlying25, fun _ _ => rfl⟩
  bits x := bits_user x.kind x.id x.rel
def unitL (S : List LUser) : List (LUser × Unit) := S.map fun u => (u, ())
theorem unitL_fst (S : List LUser) : (unitL S).map (·.1) = S := by simp [unitL, Function.comp_def]
/-- A map that holds a set of users. -/
def USetAt (w : World) (mb : Nat) (S : List LUser) : Prop := MapAt w mb LUser.val oneV (unitL S)
theorem USetAt.nodup {w : World} {mb : Nat} {S : List LUser} (h : USetAt w mb S) : S.Nodup := by have := MapAt.nodup h; rwa [unitL_fst] at this
theorem look_unitL (t : LUser) (S : List LUser) : look t (unitL S) = if t ∈ S then some () else none := by
  cases h : look t (unitL S) with
  | none => rw [look_none, unitL_fst] at h; rw [if_neg h]
  | some u => have := look_some h; simp [unitL] at this; rw [if_pos this]
theorem put_unitL (t : LUser) (S : List LUser) : putM t () (unitL S) = unitL (if t ∈ S then S else S ++ [t]) := by
  by_cases h : t ∈ S
  · rw [if_pos h]
    unfold unitL
    induction S with
    | nil => cases h
    | cons x S ih =>
      simp only [List.map_cons, putM]
      split
      · rename_i e; rw [e]
      · rename_i e
        rw [ih (by rcases List.mem_cons.1 h with h | h; · exact absurd h e
                   · exact h)]
  · rw [if_neg h, putM_none (by have := look_none.2 (show t ∉ (unitL S).map (·.1) by rwa [unitL_fst]); simpa [look] using this)]
    simp [unitL]
theorem del_unitL (t : LUser) (S : List LUser) : delM t (unitL S) = unitL (S.erase t) := by
  unfold unitL
  induction S with
  | nil => rfl
  | cons x S ih =>
    simp only [List.map_cons, delM, List.erase_cons]
    by_cases e : t = x
    · subst e; simp
    · have e2 : (x == t) = false := by simp; exact fun h => e h.symm
      rw [if_neg e, ih, e2]; rfl
theorem run_look_user {w : World} {mb : Nat} {S : List LUser} (h : USetAt w mb S) (a b c : ByteArray) :
    (Instr.lookup 105 (.map (some mb)) (.agg #[.string a, .string b, .string c]) false).run Tryz.prog w = .ok (.int .i64 (if (⟨a, b, c⟩ : LUser) ∈ S then 1 else 0)) w := by
  have h1 := run_lookup keyT_user Tryz.underlying105 (zero_int w) h ⟨a, b, c⟩ false
  refine h1.trans ?_
  rw [look_unitL]
  by_cases hm : (⟨a, b, c⟩ : LUser) ∈ S <;> simp [hm, oneV]
theorem run_put_user {w : World} {mb : Nat} {S : List LUser} (h : USetAt w mb S) (u : LUser) :
    ∃ o, (Instr.mapUpdate 105 (.map (some mb)) (.agg #[.string u.kind, .string u.id, .string u.rel]) (.int .i64 1)).run Tryz.prog w = .ok () (setB w mb o) ∧ USetAt (setB w mb o) mb (if u ∈ S then S else S ++ [u]) := by
  obtain ⟨o, h1, h2⟩ := run_mapUpdate keyT_user Tryz.underlying105 h u ()
  exact ⟨o, h1, by rw [put_unitL] at h2; exact h2⟩
theorem mem_put {u x : LUser} {S : List LUser} : x ∈ (if u ∈ S then S else S ++ [u]) ↔ x ∈ S ∨ x = u := by
  split
  · rename_i h; constructor
    · exact .inl
    · rintro (h1 | rfl)
      · exact h1
      · exact h
  · simp
/-- Where a deletion from a set stands. -/
structure DelInv (S0 Sc left : List LUser) (p : LUser → Bool) : Prop where
  mem : ∀ u, u ∈ Sc ↔ u ∈ S0 ∧ (u ∈ left ∨ p u = false)
  sub : ∀ u, u ∈ left → u ∈ S0
  nd : left.Nodup
/-- Where a copying of a set stands. -/
structure CopInv (D0 S0 Dc left : List LUser) : Prop where
  mem : ∀ u, u ∈ Dc ↔ u ∈ D0 ∨ (u ∈ S0 ∧ u ∉ left)
  sub : ∀ u, u ∈ left → u ∈ S0
  nd : left.Nodup
theorem DelInv.start {S : List LUser} (h : S.Nodup) (p : LUser → Bool) : DelInv S S S p := ⟨fun u => by simp; exact fun h => .inl h, fun _ h => h, h⟩
theorem DelInv.no {S0 Sc left left' : List LUser} {p : LUser → Bool} {k : LUser} (h : DelInv S0 Sc left p) (hp : left.Perm (k :: left')) (hk : p k = false) : DelInv S0 Sc left' p ∧ k ∉ left' := by
  have hn := hp.nodup_iff.1 h.nd
  obtain ⟨h1, h2⟩ := List.nodup_cons.1 hn
  refine ⟨⟨fun u => ?_, fun u hu => h.sub u (hp.mem_iff.2 (by simp [hu])), h2⟩, h1⟩
  rw [h.mem, hp.mem_iff]
  by_cases e : u = k
  · subst e; simp [hk]
  · simp [e]
theorem DelInv.yes {S0 Sc left left' : List LUser} {p : LUser → Bool} {k : LUser} (h : DelInv S0 Sc left p) (hS : Sc.Nodup) (hp : left.Perm (k :: left')) (hk : p k = true) : DelInv S0 (Sc.erase k) left' p ∧ k ∉ left' := by
  have hn := hp.nodup_iff.1 h.nd
  obtain ⟨h1, h2⟩ := List.nodup_cons.1 hn
  refine ⟨⟨fun u => ?_, fun u hu => h.sub u (hp.mem_iff.2 (by simp [hu])), h2⟩, h1⟩
  rw [hS.mem_erase_iff, h.mem, hp.mem_iff]
  by_cases e : u = k
  · subst e; simp [hk, h1]
  · simp [e]
theorem CopInv.start {D S : List LUser} (h : S.Nodup) : CopInv D S D S := ⟨fun u => by simp, fun _ h => h, h⟩
theorem CopInv.step {D0 S0 Dc left left' : List LUser} {k : LUser} (h : CopInv D0 S0 Dc left) (hp : left.Perm (k :: left')) : CopInv D0 S0 (if k ∈ Dc then Dc else Dc ++ [k]) left' := by
  have hn := hp.nodup_iff.1 h.nd
  obtain ⟨h1, h2⟩ := List.nodup_cons.1 hn
  refine ⟨fun u => ?_, fun u hu => h.sub u (hp.mem_iff.2 (by simp [hu])), h2⟩
  rw [mem_put, h.mem, hp.mem_iff]
  have hk0 := h.sub k (hp.mem_iff.2 (by simp))
  by_cases e : u = k
  · subst e; simp [hk0, h1]
  · simp [e]
theorem map_unit_fst (L : List (LUser × Unit)) : L = unitL (L.map (·.1)) := by
  unfold unitL
  rw [List.map_map]
  conv => lhs; rw [← List.map_id L]
  exact List.map_congr_left fun x _ => by obtain ⟨a, b⟩ := x; rfl
end Go.Proofs.YtnfkjodiielidaaGreatDoor
namespace Go.Proofs.YtnfkjodiielidaaGreatDoor
set_option linter.unusedVariables false
set_option linter.unusedSimpArgs false
open Go.RowKit

theorem Fr.past {M M' : Nat → Prop} {a b c : World} (h : Fr M a b) (k : Fr M' b c) (hM : ∀ i, i < a.heap.size → M' i → M i) : Fr M a c :=
  ⟨k.os.trans h.os, k.tape.trans h.tape, k.output.trans h.output, Nat.le_trans h.size k.size, fun i hi hn => (k.block i (Nat.lt_of_lt_of_le hi h.size) (fun hm => hn (hM i hi hm))).trans (h.block i hi hn)⟩
theorem USetAt.below {w w' : World} {mb : Nat} {S : List LUser} (h : USetAt w mb S) (hb : Below w.heap.size w w') : USetAt w' mb S := MapAt.below h hb
theorem USetAt.lt {w : World} {mb : Nat} {S : List LUser} (h : USetAt w mb S) : mb < w.heap.size := MapAt.lt h
theorem USetAt.fr {M : Nat → Prop} {w w' : World} {mb : Nat} {S : List LUser} (h : USetAt w mb S) (hw : Fr M w w') (hm : ¬ M mb) : USetAt w' mb S := MapAt.fr h hw hm
set_option maxRecDepth 100000 in
set_option maxHeartbeats 4000000 in
theorem copy_users {w : World} {md ms : Nat} {D S : List LUser} (hd : USetAt w md D) (hs : USetAt w ms S) (hne : md ≠ ms) :
    Calls Tryz.prog 102 #[.map (some md), .map (some ms)] w fun e w' => e = .returned (.tuple #[]) ∧ (∃ D', USetAt w' md D' ∧ ∀ u, u ∈ D' ↔ u ∈ D ∨ u ∈ S) ∧ Fr (fun k => k = md) w w' := by
  have hsn := hs.nodup
  obtain ⟨o, hrg, hit⟩ := IterAt.start (P := Tryz.prog) Tryz.underlying105 hs
  have hb0 : Below w.heap.size w (w.alloc o) := (Below.refl _ w).alloc (Nat.le_refl _) _
  have hd0 := hd.below hb0
  have hdl := hd.lt
  have hsl := hs.lt
  have HI := Lib.hid hit; have HD := Lib.hid hd0; have HN := Lib.hid hsn; have HNE := Lib.hid hne; have HDL := Lib.hid hdl; have HSL := Lib.hid hsl; have HB0 := Lib.hid hb0
  clear hit hd0 hsn hd hs hdl hne hsl hb0
  go_enter Tryz.func102, Tryz.ntmps102
  go_wp2
  go_loopw [8] (fun _ wr => ∃ (Dc : List LUser) (left : List (LUser × Unit)), Aside (IterAt wr w.heap.size ms LUser.val oneV (unitL S) left) ∧ Aside (USetAt wr md Dc) ∧ Aside (CopInv D S Dc (left.map (·.1))) ∧ Aside (Fr (fun k => k = md) w wr))
    (fun _ wr => wr.rangeLeft ms w.heap.size)
  case atStart => exact ⟨D, _, ⟨HI.out⟩, ⟨HD.out⟩, ⟨by rw [unitL_fst]; exact CopInv.start HN.out⟩, ⟨Fr.of_below HB0.out⟩⟩
  case round =>
    obtain ⟨Dc, left, hI, hDc, hC, hF⟩ := hrel
    have hsz := hF.out.size
    rcases hI.out.next (P := Tryz.prog) with ⟨hn0, hnx⟩ | ⟨⟨x, u0⟩, left', w2, hpm, hnx, hit2, hfr, hsz2, hen⟩
    · have hfin : ∀ u, u ∈ Dc ↔ u ∈ D ∨ u ∈ S := fun u => by have := hC.out.mem u; rw [hn0] at this; simpa using this
      have HF := Lib.hid hfin
      clear hfin hI hC
      go_wp2
      go_end0
      exact ⟨rfl, ⟨Dc, hDc.out, HF.out⟩, hF.out⟩
    · have hMr := hI.out.left_eq
      have hlen := hpm.length_eq
      have hC2 := hC.out.step (hpm.map (·.1))
      have hD2 := hDc.out.fr hfr (fun e => by have := HDL.out; omega)
      have hF2 : Fr (fun k => k = md) w w2 := hF.out.past hfr (fun i hi hm => by omega)
      have hba : Below w2.heap.size w2 (w2.alloc (.cells #[.string x.kind, .string x.id, .string x.rel] 25)) := (Below.refl _ w2).alloc (Nat.le_refl _) _
      obtain ⟨o2, hu, hD3⟩ := run_put_user (hD2.below hba) x
      have hI3 := (hit2.below hba).fr (setB_fr _ md o2) (fun e => by have := HDL.out; omega) (fun e => HNE.out e.symm)
      have hF3 : Fr (fun k => k = md) w (setB (w2.alloc (.cells #[.string x.kind, .string x.id, .string x.rel] 25)) md o2) := (hF2.trans (Fr.of_below hba)).trans (setB_fr _ md o2)
      have HM := Lib.hid hMr; have HL := Lib.hid hlen; have HC2 := Lib.hid hC2; have HD3 := Lib.hid hD3; have HI3 := Lib.hid hI3; have HF3 := Lib.hid hF3
      clear hMr hlen hC2 hD2 hF2 hba hD3 hI3 hF3 hit2 hI hDc hC hF hpm hfr hsz2
      unfold LUser.val at hnx hen
      unfold oneV at hnx hen
      go_wp2
      first
        | exact ⟨⟨_, left', ⟨HI3.out⟩, ⟨HD3.out⟩, ⟨HC2.out⟩, ⟨HF3.out⟩⟩, by rw [HI3.out.left_eq, HM.out, HL.out]; simp⟩
        | (go_roundw
           case rel => exact ⟨_, left', ⟨HI3.out⟩, ⟨HD3.out⟩, ⟨HC2.out⟩, ⟨HF3.out⟩⟩
           case measure => rw [HI3.out.left_eq, HM.out, HL.out]; simp)
set_option maxRecDepth 100000 in
set_option maxHeartbeats 4000000 in
theorem strike_users {w : World} {mb : Nat} {S : List LUser} (hs : USetAt w mb S) (g : Nat) (lb : Array Value) (p : LUser → Bool) (eg : ∀ args w, (callFunc g args).run Tryz.prog w = .ok (.enter g args) w)
    (hp : ∀ (x : LUser) (W : World), Fr (fun k => k = mb) w W → Calls Tryz.prog g (#[.agg #[.string x.kind, .string x.id, .string x.rel], .int .i64 1] ++ lb) W fun e W' => e = .returned (.bool (p x)) ∧ Below W.heap.size W W') :
    Calls Tryz.prog 103 #[.map (some mb), .func (.func g) #[] lb] w fun e w' => e = .returned (.tuple #[]) ∧ (∃ S', USetAt w' mb S' ∧ ∀ u, u ∈ S' ↔ u ∈ S ∧ p u = false) ∧ Fr (fun k => k = mb) w w' := by
  have hsn := hs.nodup
  obtain ⟨o, hrg, hit⟩ := IterAt.start (P := Tryz.prog) Tryz.underlying105 hs
  have hb0 : Below w.heap.size w (w.alloc o) := (Below.refl _ w).alloc (Nat.le_refl _) _
  have hsl := hs.lt
  have HI := Lib.hid hit; have HN := Lib.hid hsn; have HSL := Lib.hid hsl; have HB0 := Lib.hid hb0; have HP := Lib.hid hp
  clear hit hsn hs hsl hb0 hp
  go_enter Tryz.func103, Tryz.ntmps103
  go_wp2
  go_loopw [8] (fun _ wr => ∃ (Sc : List LUser) (left : List (LUser × Unit)), Aside (IterAt wr w.heap.size mb LUser.val oneV (unitL Sc) left) ∧ Aside (DelInv S Sc (left.map (·.1)) p) ∧ Aside (Fr (fun k => k = mb) w wr))
    (fun _ wr => wr.rangeLeft mb w.heap.size)
  case atStart => exact ⟨S, _, ⟨HI.out⟩, ⟨by rw [unitL_fst]; exact DelInv.start HN.out p⟩, ⟨Fr.of_below HB0.out⟩⟩
  case round =>
    obtain ⟨Sc, left, hI, hC, hF⟩ := hrel
    have hsz := hF.out.size
    rcases hI.out.next (P := Tryz.prog) with ⟨hn0, hnx⟩ | ⟨⟨x, u0⟩, left', w2, hpm, hnx, hit2, hfr, hsz2, hen⟩
    · have hfin : ∀ u, u ∈ Sc ↔ u ∈ S ∧ p u = false := fun u => by have := hC.out.mem u; rw [hn0] at this; simpa using this
      have hset : USetAt wr mb Sc := hI.out.map
      have HF := Lib.hid hfin; have HS := Lib.hid hset
      clear hfin hI hC hset
      go_wp2
      go_end0
      exact ⟨rfl, ⟨Sc, HS.out, HF.out⟩, hF.out⟩
    · have hMr := hI.out.left_eq
      have hlen := hpm.length_eq
      have hnd : Sc.Nodup := USetAt.nodup hI.out.map
      have hF2 : Fr (fun k => k = mb) w w2 := hF.out.past hfr (fun i hi hm => by omega)
      have hba : Below w2.heap.size w2 (w2.alloc (.cells #[.string x.kind, .string x.id, .string x.rel] 25)) := (Below.refl _ w2).alloc (Nat.le_refl _) _
      have hcall := HP.out x _ (hF2.trans (Fr.of_below hba))
      have hno := fun h => (hC.out.no (hpm.map (·.1)) h)
      have hyes := fun h => (hC.out.yes hnd (hpm.map (·.1)) h)
      generalize hpx : p x = px at *
      have HM := Lib.hid hMr; have HL := Lib.hid hlen; have HI2 := Lib.hid (hit2.below hba); have HF2 := Lib.hid (hF2.trans (Fr.of_below hba)); have HNO := Lib.hid hno; have HY := Lib.hid hyes
      have HC := Lib.hid hcall
      clear hMr hlen hnd hF2 hba hcall hno hyes hit2 hI hC hF hpm hfr hsz2
      unfold LUser.val at hnx hen
      unfold oneV at hnx hen
      cases px with
      | false =>
        obtain ⟨hC2, _⟩ := HNO.out (by first | rfl | trivial)
        have HC2 := Lib.hid hC2
        clear hC2 HNO HY
        go_wp2_with fail
        go_at_fn g
        refine HC.out.mono ?_
        rintro e w3 ⟨rfl, hb3⟩
        have hI3 := HI2.out.below hb3
        have hF3 := HF2.out.trans (Fr.of_below hb3)
        have HI3 := Lib.hid hI3; have HF3 := Lib.hid hF3
        clear hI3 hF3 hb3
        go_wp2
        first
          | exact ⟨⟨Sc, left', ⟨HI3.out⟩, ⟨HC2.out⟩, ⟨HF3.out⟩⟩, by rw [HI3.out.left_eq, HM.out, HL.out]; simp⟩
          | (go_roundw
             case rel => exact ⟨Sc, left', ⟨HI3.out⟩, ⟨HC2.out⟩, ⟨HF3.out⟩⟩
             case measure => rw [HI3.out.left_eq, HM.out, HL.out]; simp)
      | true =>
        obtain ⟨hC2, hnot⟩ := HY.out (by first | rfl | trivial)
        have HC2 := Lib.hid hC2
        clear hC2 HNO HY
        have hbx : (w2.alloc (.cells #[.string x.kind, .string x.id, .string x.rel] 25)).heap[w2.heap.size]? = some (.cells #[.string x.kind, .string x.id, .string x.rel] 25) := heap_alloc_at rfl
        have HBX := Lib.hid hbx
        clear hbx
        go_wp2_with fail
        go_at_fn g
        refine HC.out.mono ?_
        rintro e w3 ⟨rfl, hb3⟩
        have hI3 := HI2.out.below hb3
        have hF3 := HF2.out.trans (Fr.of_below hb3)
        have hbx3 := (hb3.block w2.heap.size (by simp)).trans HBX.out
        have v0 : w3.cell? ⟨w2.heap.size, 0, none⟩ = some (.string x.kind) := by simp [World.cell?, hbx3]
        have v1 : w3.cell? ⟨w2.heap.size, 1, none⟩ = some (.string x.id) := by simp [World.cell?, hbx3]
        have v2 : w3.cell? ⟨w2.heap.size, 2, none⟩ = some (.string x.rel) := by simp [World.cell?, hbx3]
        obtain ⟨o2, hu, hI4⟩ := IterAt.delete (ty := 0) keyT_user (ats := #[105, 25]) rfl Tryz.underlying105 hI3 x hnot
        rw [del_unitL] at hI4
        have hF4 := hF3.trans (setB_fr w3 mb o2)
        have HI4 := Lib.hid hI4; have HF4 := Lib.hid hF4
        clear hI3 hF3 hb3 hI4 hF4 hbx3 hnot
        unfold LUser.val at hu
        go_wp2
        first
          | exact ⟨⟨_, left', ⟨HI4.out⟩, ⟨HC2.out⟩, ⟨HF4.out⟩⟩, by rw [HI4.out.left_eq, HM.out, HL.out]; simp⟩
          | (go_roundw
             case rel => exact ⟨_, left', ⟨HI4.out⟩, ⟨HC2.out⟩, ⟨HF4.out⟩⟩
             case measure => rw [HI4.out.left_eq, HM.out, HL.out]; simp)
end Go.Proofs.YtnfkjodiielidaaGreatDoor

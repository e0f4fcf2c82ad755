/- The document's layer 1: what comes ahead. -/
import Derived.Test.YtnfkjodiielidaaGreatWref13
import Derived.Deep.RegionHeld3
namespace Go.Proofs.YtnfkjodiielidaaGreat
set_option linter.unusedVariables false
set_option linter.unusedSimpArgs false
open Go.RowKit

theorem byte_drop (s : ByteArray) (k : Nat) (h : k < s.size) : s.toList.drop k = s[k] :: s.toList.drop (k + 1) := by
  rw [ByteArray.toList_eq]
  have h' : k < s.data.toList.length := by simpa using h
  rw [List.drop_eq_getElem_cons h']
  rfl
theorem byte_end (s : ByteArray) (k : Nat) (h : s.size ≤ k) : s.toList.drop k = [] := by
  rw [ByteArray.toList_eq]
  exact List.drop_of_length_le (by simpa using h)
set_option maxRecDepth 100000 in
set_option maxHeartbeats 2000000 in
theorem ref_below (a b : ByteArray) (ha : a.size ≤ 300) (w : World) : Calls Tryz.prog 54 #[.string a, .string b] w fun e w' => e = .returned (.bool (ltS a b)) ∧ Below w.heap.size w w' := by
  generalize hr : ltS a b = r
  have HR := Lib.hid hr; clear hr
  have mixed : Tryz.prog.follows Departure.mixedOrders = true := by kernel_rfl
  go_enter Tryz.func54, Tryz.ntmps54
  go_wp2
  go_loopw [5] (fun i wr => ∃ k : Nat, k ≤ a.size ∧ k ≤ b.size ∧ i = .int .i64 k ∧ Below w.heap.size w wr ∧ Aside (ltS a b = Op.bytesLess (a.toList.drop k) (b.toList.drop k))) (fun i _ => a.size - (intOf i).toNat)
  case atStart => exact ⟨0, by omega, by omega, rfl, Below.refl _ _, ⟨rfl⟩⟩
  case round =>
    obtain ⟨k, hk, hk2, rfl, hB, hA⟩ := hrel
    by_cases hlt : k < a.size
    · by_cases hlt2 : k < b.size
      · have hst := hA.out
        rw [byte_drop a k hlt, byte_drop b k hlt2] at hst
        simp only [Op.bytesLess] at hst
        generalize ha1 : a[k] = x at *
        generalize hb1 : b[k] = y at *
        have hst2 : ltS a b = (decide (x < y) || ((x == y) && Op.bytesLess (a.toList.drop (k + 1)) (b.toList.drop (k + 1)))) := hst
        have HST := Lib.hid hst2; clear hst hst2
        by_cases hxy : x = y
        · have h1 : ltS a b = Op.bytesLess (a.toList.drop (k + 1)) (b.toList.drop (k + 1)) := by
            rw [HST.out, hxy]
            simp [UInt8.lt_iff_toNat_lt]
          have H1 := Lib.hid h1; clear h1
          have hne : ((x.toNat : Int) != y.toNat) = false := by rw [hxy]; simp
          go_wp2_with fail
          go_region_o
          go_wp2
          go_roundw
          case rel => exact ⟨k + 1, by omega, by omega, by go_num, hB.drew, ⟨H1.out⟩⟩
          case measure => simp [intOf]; omega
        · have hne : ((x.toNat : Int) != y.toNat) = true := by
            rw [bne_iff_ne]
            intro e
            exact hxy (UInt8.toNat_inj.1 (by omega))
          have hf : decide ((x.toNat : Int) < y.toNat) = r := by
            rw [← HR.out, HST.out]
            have : (x == y) = false := by rw [beq_eq_false_iff_ne]; exact hxy
            rw [this, Bool.false_and, Bool.or_false, decide_eq_decide, UInt8.lt_iff_toNat_lt]
            omega
          have HF := Lib.hid hf; clear hf
          go_wp2_with fail
          go_region_o
          go_wp2_with fail
          go_region_o
          go_wp2
          go_ret
          exact ⟨ret_bool (by rw [← HF.out]; simp), hB.drew.drew⟩
      · have hf : false = r := by
          rw [← HR.out, hA.out, byte_end b k (by omega), byte_drop a k hlt]; rfl
        have hlen : ¬ a.size < b.size := by omega
        have HF := Lib.hid hf; clear hf
        go_wp2
        go_ret
        exact ⟨ret_bool HF.out, hB⟩
    · have hf : decide (a.size < b.size) = r := by
        rw [← HR.out, hA.out, byte_end a k (by omega)]
        rcases Nat.lt_or_ge k b.size with h | h
        · rw [byte_drop b k h]; simp [Op.bytesLess]; omega
        · rw [byte_end b k h]; simp [Op.bytesLess] <;> omega
      have HF := Lib.hid hf; clear hf
      go_wp2
      go_ret
      exact ⟨ret_bool (by rw [← HF.out]), hB⟩

theorem ltL_step (x y : List ByteArray) (k : Nat) (h1 : k < x.length) (h2 : k < y.length) : lexB ltS (x.drop k) (y.drop k) = (ltS x[k] y[k] || (decide (x[k] = y[k]) && lexB ltS (x.drop (k + 1)) (y.drop (k + 1)))) := by
  rw [List.drop_eq_getElem_cons h1, List.drop_eq_getElem_cons h2]
  rfl
set_option maxRecDepth 100000 in
set_option maxHeartbeats 2000000 in
theorem ref_LessL {A B : Nat → Prop} {w : World} {x y : List ByteArray} {u v : Value} (hu : RepD A w (.slice 1 (x.map fun s => [.str s])) u) (hv : RepD B w (.slice 1 (y.map fun s => [.str s])) v) (hs : ∀ s, s ∈ x → s.size ≤ 300) :
    Calls Tryz.prog 38 #[u, v] w fun e w' => e = .returned (.bool (ltL x y)) ∧ Below w.heap.size w w' := by
  have mixed : Tryz.prog.follows Departure.mixedOrders = true := by kernel_rfl
  obtain ⟨a, c, rfl, _, hl, hk⟩ := hu.strs
  obtain ⟨a', c', rfl, _, hl', hk'⟩ := hv.strs
  have HK := Lib.hid hk; have HK' := Lib.hid hk'; have HS := Lib.hid hs; clear hk hk' hu hv hs
  generalize hr : ltL x y = r
  have HR := Lib.hid hr; clear hr
  go_enter Tryz.func38, Tryz.ntmps38
  go_wp2
  go_loopw [5] (fun i wr => ∃ k : Nat, k ≤ x.length ∧ k ≤ y.length ∧ i = .int .i64 k ∧ Below w.heap.size w wr ∧ Aside (ltL x y = lexB ltS (x.drop k) (y.drop k))) (fun i _ => x.length - (intOf i).toNat)
  case atStart => exact ⟨0, by omega, by omega, rfl, Below.refl _ _, ⟨rfl⟩⟩
  case round =>
    obtain ⟨k, hk, hk2, rfl, hB, hA⟩ := hrel
    by_cases hlt : k < x.length
    · by_cases hlt2 : k < y.length
      · obtain ⟨b, off, rfl, _, e0⟩ := HK.out k hlt
        obtain ⟨b', off', rfl, _, d0⟩ := HK'.out k hlt2
        have hbl : b < w.heap.size := World.block_lt_of_cell? w _ e0
        have hbl' : b' < w.heap.size := World.block_lt_of_cell? w _ d0
        rw [← hB.cell (by exact hbl)] at e0
        rw [← hB.cell (by exact hbl')] at d0
        have hst := hA.out
        rw [ltL_step x y k hlt hlt2] at hst
        have HST := Lib.hid hst; clear hst
        have hsz := HS.out x[k] (List.getElem_mem hlt)
        generalize x[k] = s at *
        generalize y[k] = t at *
        by_cases hxy : s = t
        · have h1 : ltL x y = lexB ltS (x.drop (k + 1)) (y.drop (k + 1)) := by
            rw [HST.out, hxy, lin_ltS.irrefl]; simp
          have H1 := Lib.hid h1; clear h1 HST
          subst hxy
          go_wp2_with fail
          go_region_o
          go_wp2
          go_roundw
          case rel => exact ⟨k + 1, by omega, by omega, by go_num, hB.drew, ⟨H1.out⟩⟩
          case measure => simp [intOf]; omega
        · have hne := toList_ne hxy
          have hne2 : (s.toList = t.toList) = False := by simp; exact fun e => hxy (bytes_toList_inj e)
          have hf : ltS s t = r := by
            rw [← HR.out, HST.out]
            simp [hxy]
          have HF := Lib.hid hf; clear hf
          have hbel := fun W => ref_below s t hsz W
          have HBEL := Lib.hid hbel; clear hbel
          go_wp2_with fail
          go_region_o
          go_wp2_with fail
          have ST := Lib.hid (show Below w.heap.size w wr.drew.drew ∧ wr.drew.drew.cell? ⟨b, off + k, none⟩ = some (.string s) ∧ wr.drew.drew.cell? ⟨b', off' + k, none⟩ = some (.string t) from ⟨hB.drew.drew, e0, d0⟩)
          clear hB e0 d0
          go_region_held3 (fun W => W.cell? ⟨b, off + k, none⟩ = some (.string s) ∧ W.cell? ⟨b', off' + k, none⟩ = some (.string t))
            (exact ST.out.2)
            (first
              | (go_at_call 54; refine (HBEL.out _).mono ?_; rintro e w2 ⟨rfl, hb2⟩; have hx := ST.out; clear ST; have ST := Lib.hid (And.intro (below_past hx.1 hb2) (And.intro ((hb2.cell (World.block_lt_of_cell? _ _ hx.2.1)).trans hx.2.1) ((hb2.cell (World.block_lt_of_cell? _ _ hx.2.2)).trans hx.2.2))); clear hx hb2))
          all_goals
            go_wp2
            go_ret
            exact ⟨ret_bool HF.out, ST.out.1⟩
      · have hf : false = r := by
          rw [← HR.out, hA.out, List.drop_of_length_le (show y.length ≤ k by omega), List.drop_eq_getElem_cons hlt]; rfl
        have hlen : ¬ x.length < y.length := by omega
        have HF := Lib.hid hf; clear hf
        go_wp2
        go_ret
        exact ⟨ret_bool HF.out, hB⟩
    · have hf : decide (x.length < y.length) = r := by
        rw [← HR.out, hA.out, List.drop_of_length_le (show x.length ≤ k by omega)]
        rcases Nat.lt_or_ge k y.length with h | h
        · rw [List.drop_eq_getElem_cons h]; simp [lexB]; omega
        · rw [List.drop_of_length_le h]; simp [lexB]; omega
      have HF := Lib.hid hf; clear hf
      go_wp2
      go_ret
      exact ⟨ret_bool (by rw [← HF.out]), hB⟩
end Go.Proofs.YtnfkjodiielidaaGreat

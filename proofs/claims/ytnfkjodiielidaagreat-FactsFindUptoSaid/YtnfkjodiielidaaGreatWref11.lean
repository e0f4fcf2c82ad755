/- The document's layer 11: which names and tuples may be. -/
import Derived.Test.YtnfkjodiielidaaGreatWref13
namespace Go.Proofs.YtnfkjodiielidaaGreat
set_option linter.unusedVariables false
set_option linter.unusedSimpArgs false
open Go.RowKit

/-- A tuple of short texts. -/
def shortT (t : LTuple) : Bool := t.strs.all fun s => decide (s.size ≤ 300)
theorem shortT_all {t : LTuple} (h : shortT t = true) : t.kind.size ≤ 300 ∧ t.id.size ≤ 300 ∧ t.rel.size ≤ 300 ∧ t.user.kind.size ≤ 300 ∧ t.user.id.size ≤ 300 ∧ t.user.rel.size ≤ 300 := by
  unfold shortT LTuple.strs at h
  simpa using h
theorem few_all {l : List LTuple} (h : fewB l = true) : (∀ t, t ∈ l → shortT t = true) ∧ l.length ≤ 80 := by
  unfold fewB at h
  rw [Bool.and_eq_true] at h
  exact ⟨fun t ht => (List.all_eq_true.1 h.1) t ht, of_decide_eq_true h.2⟩

set_option maxRecDepth 100000 in
set_option maxHeartbeats 4000000 in
theorem ref_Name (s : ByteArray) (hs : s.size ≤ 300) (w : World) : Calls Tryz.prog 58 #[.string s] w fun e w' => e = .returned (.bool (okName s)) ∧ w' = w := by
  generalize hr : okName s = r
  have HR := Lib.hid hr; clear hr
  go_enter Tryz.func58, Tryz.ntmps58
  go_wp2
  go_loopw [3] (fun i wr => ∃ k : Nat, k ≤ s.size ∧ i = .int .i64 k ∧ wr = w ∧ Aside (allFrom nameB s 0 = allFrom nameB s k)) (fun i _ => s.size - (intOf i).toNat)
  case atStart => exact ⟨0, by omega, rfl, rfl, ⟨rfl⟩⟩
  case round =>
    obtain ⟨k, hk, rfl, rfl, hA⟩ := hrel
    by_cases hlt : k < s.size
    · have hstep := allFrom_step nameB s k hlt
      have hbe := byteAt_eq s k hlt
      have hrg := byteAt_range s k
      rw [hbe] at hstep hrg
      clear hbe
      generalize hc : ((s[k]'hlt).toNat : Int) = c at *
      have HS := Lib.hid hstep; clear hstep
      by_cases h1 : 97 ≤ c
      · by_cases h2 : c ≤ 122
        · have hn := (show nameB k c = true by unfold nameB letterB digitB; simp_all <;> omega)
          have hnx : allFrom nameB s 0 = allFrom nameB s (k + 1) := by rw [hA.out, HS.out, hn]; rfl
          have HN := Lib.hid hnx; clear hnx hn
          go_wp2
          first
            | exact ⟨⟨k + 1, by omega, by first | go_num | simp, trivial, ⟨HN.out⟩⟩, by simp [intOf] <;> omega⟩
            | (go_roundw
               case rel => exact ⟨k + 1, by omega, by go_num, rfl, ⟨HN.out⟩⟩
               case measure => simp [intOf]; omega)
        · by_cases h3 : 0 < k
          · have h4 : 48 ≤ c := by omega
            have h5 : ¬ c ≤ 57 := by omega
            have h6 : (c == 95) = false := by rw [beq_eq_false_iff_ne]; omega
            have hn := (show nameB k c = false by unfold nameB letterB digitB; simp_all <;> omega)
            have hfin : false = r := by rw [← HR.out]; unfold okName okText; rw [hA.out, HS.out, hn]; rfl
            have HF := Lib.hid hfin; clear hfin hn
            go_wp2
            go_ret
            exact ⟨ret_bool HF.out, rfl⟩
          · have hn := (show nameB k c = false by unfold nameB letterB digitB; simp_all <;> omega)
            have hfin : false = r := by rw [← HR.out]; unfold okName okText; rw [hA.out, HS.out, hn]; rfl
            have HF := Lib.hid hfin; clear hfin hn
            go_wp2
            go_ret
            exact ⟨ret_bool HF.out, rfl⟩
      · by_cases h3 : 0 < k
        · by_cases h4 : 48 ≤ c
          · by_cases h5 : c ≤ 57
            · have hn := (show nameB k c = true by unfold nameB letterB digitB; simp_all <;> omega)
              have hnx : allFrom nameB s 0 = allFrom nameB s (k + 1) := by rw [hA.out, HS.out, hn]; rfl
              have HN := Lib.hid hnx; clear hnx hn
              go_wp2
              first
                | exact ⟨⟨k + 1, by omega, by first | go_num | simp, trivial, ⟨HN.out⟩⟩, by simp [intOf] <;> omega⟩
                | (go_roundw
                   case rel => exact ⟨k + 1, by omega, by go_num, rfl, ⟨HN.out⟩⟩
                   case measure => simp [intOf]; omega)
            · by_cases h6 : c = 95
              · subst h6
                have hn := (show nameB k 95 = true by unfold nameB letterB digitB; simp_all <;> omega)
                have hnx : allFrom nameB s 0 = allFrom nameB s (k + 1) := by rw [hA.out, HS.out, hn]; rfl
                have HN := Lib.hid hnx; clear hnx hn
                go_wp2
                first
                  | exact ⟨⟨k + 1, by omega, by first | go_num | simp, trivial, ⟨HN.out⟩⟩, by simp [intOf] <;> omega⟩
                  | (go_roundw
                     case rel => exact ⟨k + 1, by omega, by go_num, rfl, ⟨HN.out⟩⟩
                     case measure => simp [intOf]; omega)
              · have h6 : (c == 95) = false := by rw [beq_eq_false_iff_ne]; omega
                have hn := (show nameB k c = false by unfold nameB letterB digitB; simp_all <;> omega)
                have hfin : false = r := by rw [← HR.out]; unfold okName okText; rw [hA.out, HS.out, hn]; rfl
                have HF := Lib.hid hfin; clear hfin hn
                go_wp2
                go_ret
                exact ⟨ret_bool HF.out, rfl⟩
          · have h6 : (c == 95) = false := by rw [beq_eq_false_iff_ne]; omega
            have hn := (show nameB k c = false by unfold nameB letterB digitB; simp_all <;> omega)
            have hfin : false = r := by rw [← HR.out]; unfold okName okText; rw [hA.out, HS.out, hn]; rfl
            have HF := Lib.hid hfin; clear hfin hn
            go_wp2
            go_ret
            exact ⟨ret_bool HF.out, rfl⟩
        · have hn := (show nameB k c = false by unfold nameB letterB digitB; simp_all <;> omega)
          have hfin : false = r := by rw [← HR.out]; unfold okName okText; rw [hA.out, HS.out, hn]; rfl
          have HF := Lib.hid hfin; clear hfin hn
          go_wp2
          go_ret
          exact ⟨ret_bool HF.out, rfl⟩
    · have hr : r = (decide (1 ≤ s.size) && decide (s.size ≤ 12)) := by rw [← HR.out]; unfold okName okText; rw [hA.out, allFrom_end nameB s k (by omega)]; rfl
      have HF := Lib.hid hr; clear hr
      by_cases h1 : 1 ≤ s.size
      · have hfin : decide (s.size ≤ 12) = r := by rw [HF.out]; simp [h1]
        have HF' := Lib.hid hfin; clear hfin
        go_wp2
        go_ret
        exact ⟨ret_bool (by rw [← HF'.out]; simp <;> omega), rfl⟩
      · have hfin : false = r := by rw [HF.out]; simp [h1]
        have HF' := Lib.hid hfin; clear hfin
        go_wp2
        go_ret
        exact ⟨ret_bool HF'.out, rfl⟩

set_option maxRecDepth 100000 in
set_option maxHeartbeats 4000000 in
theorem ref_ID (s : ByteArray) (hs : s.size ≤ 300) (w : World) : Calls Tryz.prog 59 #[.string s] w fun e w' => e = .returned (.bool (okID s)) ∧ w' = w := by
  generalize hr : okID s = r
  have HR := Lib.hid hr; clear hr
  go_enter Tryz.func59, Tryz.ntmps59
  go_wp2
  go_loopw [3] (fun i wr => ∃ k : Nat, k ≤ s.size ∧ i = .int .i64 k ∧ wr = w ∧ Aside (allFrom (fun _ => idB) s 0 = allFrom (fun _ => idB) s k)) (fun i _ => s.size - (intOf i).toNat)
  case atStart => exact ⟨0, by omega, rfl, rfl, ⟨rfl⟩⟩
  case round =>
    obtain ⟨k, hk, rfl, rfl, hA⟩ := hrel
    by_cases hlt : k < s.size
    · have hstep := allFrom_step (fun _ => idB) s k hlt
      have hbe := byteAt_eq s k hlt
      have hrg := byteAt_range s k
      rw [hbe] at hstep hrg
      clear hbe
      generalize hc : ((s[k]'hlt).toNat : Int) = c at *
      have HS := Lib.hid hstep; clear hstep
      by_cases h1 : 97 ≤ c
      · by_cases h2 : c ≤ 122
        · have hn := (show idB c = true by unfold idB letterB digitB; simp_all <;> omega)
          have hnx : allFrom (fun _ => idB) s 0 = allFrom (fun _ => idB) s (k + 1) := by rw [hA.out, HS.out, hn]; rfl
          have HN := Lib.hid hnx; clear hnx hn
          go_wp2
          first
            | exact ⟨⟨k + 1, by omega, by first | go_num | simp, trivial, ⟨HN.out⟩⟩, by simp [intOf] <;> omega⟩
            | (go_roundw
               case rel => exact ⟨k + 1, by omega, by go_num, rfl, ⟨HN.out⟩⟩
               case measure => simp [intOf]; omega)
        · have h4 : 48 ≤ c := by omega
          have h5 : ¬ c ≤ 57 := by omega
          have h6 : (c != 95) = true := by rw [bne_iff_ne]; omega
          have h7 : (c != 45) = true := by rw [bne_iff_ne]; omega
          have h8 : (c != 46) = true := by rw [bne_iff_ne]; omega
          have hn := (show idB c = false by unfold idB letterB digitB; simp_all <;> omega)
          have hfin : false = r := by rw [← HR.out]; unfold okID okText; rw [hA.out, HS.out, hn]; rfl
          have HF := Lib.hid hfin; clear hfin hn
          go_wp2
          go_ret
          exact ⟨ret_bool HF.out, rfl⟩
      · by_cases h4 : 48 ≤ c
        · by_cases h5 : c ≤ 57
          · have hn := (show idB c = true by unfold idB letterB digitB; simp_all <;> omega)
            have hnx : allFrom (fun _ => idB) s 0 = allFrom (fun _ => idB) s (k + 1) := by rw [hA.out, HS.out, hn]; rfl
            have HN := Lib.hid hnx; clear hnx hn
            go_wp2
            first
              | exact ⟨⟨k + 1, by omega, by first | go_num | simp, trivial, ⟨HN.out⟩⟩, by simp [intOf] <;> omega⟩
              | (go_roundw
                 case rel => exact ⟨k + 1, by omega, by go_num, rfl, ⟨HN.out⟩⟩
                 case measure => simp [intOf]; omega)
          · have h7 : (c != 45) = true := by rw [bne_iff_ne]; omega
            have h8 : (c != 46) = true := by rw [bne_iff_ne]; omega
            by_cases h6 : c = 95
            · subst h6
              have hn := (show idB 95 = true by unfold idB letterB digitB; simp_all <;> omega)
              have hnx : allFrom (fun _ => idB) s 0 = allFrom (fun _ => idB) s (k + 1) := by rw [hA.out, HS.out, hn]; rfl
              have HN := Lib.hid hnx; clear hnx hn
              go_wp2
              first
                | exact ⟨⟨k + 1, by omega, by first | go_num | simp, trivial, ⟨HN.out⟩⟩, by simp [intOf] <;> omega⟩
                | (go_roundw
                   case rel => exact ⟨k + 1, by omega, by go_num, rfl, ⟨HN.out⟩⟩
                   case measure => simp [intOf]; omega)
            · have h6 : (c != 95) = true := by rw [bne_iff_ne]; omega
              have hn := (show idB c = false by unfold idB letterB digitB; simp_all <;> omega)
              have hfin : false = r := by rw [← HR.out]; unfold okID okText; rw [hA.out, HS.out, hn]; rfl
              have HF := Lib.hid hfin; clear hfin hn
              go_wp2
              go_ret
              exact ⟨ret_bool HF.out, rfl⟩
        · have h6 : (c != 95) = true := by rw [bne_iff_ne]; omega
          by_cases h7 : c = 45
          · subst h7
            have hn := (show idB 45 = true by unfold idB letterB digitB; simp_all <;> omega)
            have hnx : allFrom (fun _ => idB) s 0 = allFrom (fun _ => idB) s (k + 1) := by rw [hA.out, HS.out, hn]; rfl
            have HN := Lib.hid hnx; clear hnx hn
            go_wp2
            first
              | exact ⟨⟨k + 1, by omega, by first | go_num | simp, trivial, ⟨HN.out⟩⟩, by simp [intOf] <;> omega⟩
              | (go_roundw
                 case rel => exact ⟨k + 1, by omega, by go_num, rfl, ⟨HN.out⟩⟩
                 case measure => simp [intOf]; omega)
          · by_cases h8 : c = 46
            · subst h8
              have hn := (show idB 46 = true by unfold idB letterB digitB; simp_all <;> omega)
              have hnx : allFrom (fun _ => idB) s 0 = allFrom (fun _ => idB) s (k + 1) := by rw [hA.out, HS.out, hn]; rfl
              have HN := Lib.hid hnx; clear hnx hn
              go_wp2
              first
                | exact ⟨⟨k + 1, by omega, by first | go_num | simp, trivial, ⟨HN.out⟩⟩, by simp [intOf] <;> omega⟩
                | (go_roundw
                   case rel => exact ⟨k + 1, by omega, by go_num, rfl, ⟨HN.out⟩⟩
                   case measure => simp [intOf]; omega)
            · have h7 : (c != 45) = true := by rw [bne_iff_ne]; omega
              have h8 : (c != 46) = true := by rw [bne_iff_ne]; omega
              have hn := (show idB c = false by unfold idB letterB digitB; simp_all <;> omega)
              have hfin : false = r := by rw [← HR.out]; unfold okID okText; rw [hA.out, HS.out, hn]; rfl
              have HF := Lib.hid hfin; clear hfin hn
              go_wp2
              go_ret
              exact ⟨ret_bool HF.out, rfl⟩
    · have hr : r = (decide (1 ≤ s.size) && decide (s.size ≤ 16)) := by rw [← HR.out]; unfold okID okText; rw [hA.out, allFrom_end (fun _ => idB) s k (by omega)]; rfl
      have HF := Lib.hid hr; clear hr
      by_cases h1 : 1 ≤ s.size
      · have hfin : decide (s.size ≤ 16) = r := by rw [HF.out]; simp [h1]
        have HF' := Lib.hid hfin; clear hfin
        go_wp2
        go_ret
        exact ⟨ret_bool (by rw [← HF'.out]; simp <;> omega), rfl⟩
      · have hfin : false = r := by rw [HF.out]; simp [h1]
        have HF' := Lib.hid hfin; clear hfin
        go_wp2
        go_ret
        exact ⟨ret_bool HF'.out, rfl⟩

set_option maxRecDepth 100000 in
set_option maxHeartbeats 1000000 in
theorem ref_User (a b c : ByteArray) (ha : a.size ≤ 300) (hb : b.size ≤ 300) (hc : c.size ≤ 300) (w : World) : Calls Tryz.prog 60 #[.agg #[.string a, .string b, .string c]] w fun e w' => e = .returned (.bool (okUser ⟨a, b, c⟩)) ∧ Below w.heap.size w w' := by
  have hr : okUser ⟨a, b, c⟩ = (okName a && okID b && (decide (c.size = 0) || okName c)) := rfl
  generalize okUser ⟨a, b, c⟩ = r at *
  have he := empty_iff c
  have hB0 : Below w.heap.size w (w.alloc (.cells #[.string a, .string b, .string c] 24)) := (Below.refl _ w).alloc (Nat.le_refl _) _
  have ha := fun W => ref_Name a ha W
  have hb := fun W => ref_ID b hb W
  have hcn := fun W => ref_Name c hc W
  generalize decide (c.size = 0) = E at *
  cases h1 : okName a <;> cases h2 : okID b <;> cases E <;> cases h3 : okName c
  all_goals
    simp only [h1, h2, h3, Bool.and_false, Bool.false_and, Bool.and_true, Bool.true_or, Bool.or_true, Bool.or_false] at hr ha hb hcn
    subst hr
    clear h1 h2 h3
    go_enter Tryz.func60, Tryz.ntmps60
    go_wp2_with (first
      | (go_at_call 58; with_reducible refine (ha _).mono ?_; rintro e w' ⟨rfl, rfl⟩)
      | (go_at_call 58; with_reducible refine (hcn _).mono ?_; rintro e w' ⟨rfl, rfl⟩)
      | (go_at_call 59; with_reducible refine (hb _).mono ?_; rintro e w' ⟨rfl, rfl⟩))
    go_ret
    exact ⟨by first | rfl | simp [*], hB0⟩
set_option maxRecDepth 100000 in
set_option maxHeartbeats 1000000 in
theorem ref_Check (t : LTuple) (hs : shortT t = true) (w : World) : Calls Tryz.prog 42 #[t.val] w fun e w' => e = .returned (.bool (okTuple t)) ∧ Below w.heap.size w w' := by
  obtain ⟨a, b, c, ⟨d, f, g⟩⟩ := t
  obtain ⟨ha, hb, hc, hd, hf, hg⟩ := shortT_all hs
  have hr : okTuple ⟨a, b, c, ⟨d, f, g⟩⟩ = (okName a && okID b && okName c && okUser ⟨d, f, g⟩) := rfl
  generalize okTuple ⟨a, b, c, ⟨d, f, g⟩⟩ = r at *
  unfold LTuple.val
  have hB0 : Below w.heap.size w (w.alloc (.cells #[.string a, .string b, .string c, .string d, .string f, .string g] 49)) := (Below.refl _ w).alloc (Nat.le_refl _) _
  have ha := fun W => ref_Name a ha W
  have hb := fun W => ref_ID b hb W
  have hcn := fun W => ref_Name c hc W
  have hu := fun W => ref_User d f g hd hf hg W
  cases h1 : okName a <;> cases h2 : okID b <;> cases h3 : okName c <;> cases h4 : okUser ⟨d, f, g⟩
  all_goals
    simp only [h1, h2, h3, h4, Bool.and_false, Bool.false_and, Bool.and_true] at hr ha hb hcn hu
    subst hr
    clear h1 h2 h3 h4
    go_enter Tryz.func42, Tryz.ntmps42
    go_wp2_with (first
      | (go_at_call 58; with_reducible refine (ha _).mono ?_; rintro e w' ⟨rfl, rfl⟩)
      | (go_at_call 58; with_reducible refine (hcn _).mono ?_; rintro e w' ⟨rfl, rfl⟩)
      | (go_at_call 59; with_reducible refine (hb _).mono ?_; rintro e w' ⟨rfl, rfl⟩)
      | (go_at_call 60; with_reducible refine (hu _).mono ?_; rintro e w' ⟨rfl, hbb⟩))
    go_ret
    first | exact ⟨rfl, below_past hB0 (by assumption)⟩ | exact ⟨rfl, hB0⟩
end Go.Proofs.YtnfkjodiielidaaGreat

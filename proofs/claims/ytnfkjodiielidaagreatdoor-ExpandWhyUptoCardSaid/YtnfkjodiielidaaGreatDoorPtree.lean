/- Layer 15, as plain data: whom a tree has, whom it names, which ways lead to a user. -/
-- needs expand.walk
/- Layer 15, as plain data: all nodes of a tree, with the ways to them. -/
import Derived.Test.YtnfkjodiielidaaGreatDoorOrd
namespace Go.Proofs.YtnfkjodiielidaaGreatDoor
set_option linter.unusedVariables false
set_option linter.unusedSimpArgs false
open Go.RowKit

namespace LTree
def natSize : LTree → Nat
  | mk _ _ p => (p.attach.map fun ⟨x, _⟩ => x.natSize).sum + 1
theorem natSize_eq (e : LTree) : e.natSize = (e.parts.map natSize).sum + 1 := by
  cases e with
  | mk o n p => simp [natSize, parts]
/-- Whether a node has a user, by whether its parts have. -/
def in1 (o : ByteArray) (us : List LUser) (bs : List Bool) (u : LUser) : Bool :=
  if o = sOr then decide (u ∈ us) || bs.any id
  else if o = sAnd then !bs.isEmpty && bs.all id
  else if o = sBut then decide (bs.length = 2) && (bs.getD 0 false && !bs.getD 1 false)
  else false
def inB (u : LUser) : LTree → Bool
  | mk o us ps => in1 o us (ps.attach.map fun ⟨x, _⟩ => x.inB u) u
theorem inB_eq (u : LUser) (e : LTree) : e.inB u = in1 e.op e.users (e.parts.map (inB u)) u := by
  cases e with
  | mk o n p => simp [inB, parts, op, users]
/-- All users that are named. -/
def named : LTree → List LUser
  | mk _ us ps => us ++ (ps.attach.map fun ⟨x, _⟩ => x.named).flatten
theorem named_eq (e : LTree) : e.named = e.users ++ (e.parts.map named).flatten := by
  cases e with
  | mk o n p => simp [named, parts, users]
theorem named_of_in (u : LUser) (e : LTree) : e.inB u = true → u ∈ e.named := by
  induction e using LTree.ind with
  | h e ih =>
  intro h
  rw [inB_eq] at h
  rw [named_eq]
  have hp : ∀ x, x ∈ e.parts → x.inB u = true → u ∈ e.users ++ (e.parts.map named).flatten := fun x hx hi => List.mem_append_right _ (List.mem_flatten.2 ⟨_, List.mem_map.2 ⟨x, hx, rfl⟩, ih x hx hi⟩)
  unfold in1 at h
  split at h
  · simp only [Bool.or_eq_true, decide_eq_true_eq, List.any_map, List.any_eq_true, Function.comp_def, id] at h
    rcases h with h | ⟨x, hx, hi⟩
    · exact List.mem_append_left _ h
    · exact hp x hx hi
  · split at h
    · simp only [Bool.and_eq_true, Bool.not_eq_true', List.all_map, List.all_eq_true, Function.comp_def, id] at h
      obtain ⟨h1, h2⟩ := h
      cases hps : e.parts with
      | nil => simp [hps] at h1
      | cons x r => rw [← hps]; exact hp x (by simp [hps]) (h2 x (by simp [hps]))
    · split at h
      · simp only [Bool.and_eq_true, decide_eq_true_eq, Bool.not_eq_true', List.length_map] at h
        obtain ⟨h1, h2, h3⟩ := h
        cases hps : e.parts with
        | nil => simp [hps] at h1
        | cons x r =>
          rw [← hps]
          refine hp x (by simp [hps]) ?_
          rw [hps] at h2
          simpa using h2
      · cases h
/-- The users of a tree, in their order. -/
def flat (t : LTree) : List LUser := (canon uLess t.named).filter fun u => t.inB u
theorem mem_flat {t : LTree} {u : LUser} : u ∈ t.flat ↔ t.inB u = true := by
  unfold flat
  rw [List.mem_filter, mem_canon]
  exact ⟨fun h => h.2, fun h => ⟨named_of_in u t h, h⟩⟩
theorem flat_rising (t : LTree) : Rising uLess t.flat := (rising_canon lin_uLess _).filter _
theorem eq_flat {t : LTree} {l : List LUser} (hl : ∀ u, u ∈ l ↔ t.inB u = true) : canon uLess l = t.flat :=
  (rising_canon lin_uLess l).ext lin_uLess (flat_rising t) fun u => by rw [mem_canon, hl, mem_flat]
/-- The ways below, of parts from the i-th one on. -/
def waysL : Nat → List (List (List Nat)) → List (List Nat)
  | _, [] => []
  | i, ws :: r => ws.map (i :: ·) ++ waysL (i + 1) r
theorem waysL_snoc (ws : List (List Nat)) : ∀ (L : List (List (List Nat))) (i : Nat), waysL i (L ++ [ws]) = waysL i L ++ ws.map ((i + L.length) :: ·) := by
  intro L
  induction L with
  | nil => intro i; simp [waysL]
  | cons x L ih => intro i; simp only [List.cons_append, waysL, ih, List.length_cons, List.append_assoc]; rw [show i + 1 + L.length = i + (L.length + 1) by omega]
theorem waysL_length : ∀ (L : List (List (List Nat))) (i : Nat), (waysL i L).length = (L.map List.length).sum := by
  intro L
  induction L with
  | nil => intro i; rfl
  | cons x L ih => intro i; simp [waysL, ih]
def ways (u : LUser) : LTree → List (List Nat)
  | mk _ us ps => (if u ∈ us then [[]] else []) ++ waysL 0 (ps.attach.map fun ⟨x, _⟩ => x.ways u)
theorem ways_eq (u : LUser) (e : LTree) : e.ways u = (if u ∈ e.users then [[]] else []) ++ waysL 0 (e.parts.map (ways u)) := by
  cases e with
  | mk o n p => by_cases h : u ∈ n <;> simp [ways, parts, users, h]
def count (u : LUser) : LTree → Nat
  | mk _ us ps => (if u ∈ us then 1 else 0) + (ps.attach.map fun ⟨x, _⟩ => x.count u).sum
theorem count_eq (u : LUser) (e : LTree) : e.count u = (if u ∈ e.users then 1 else 0) + (e.parts.map (count u)).sum := by
  cases e with
  | mk o n p => by_cases h : u ∈ n <;> simp [count, parts, users, h]
theorem ways_length (u : LUser) (e : LTree) : (e.ways u).length = e.count u := by
  induction e using LTree.ind with
  | h e ih =>
  rw [ways_eq, count_eq, List.length_append, waysL_length, List.map_map]
  congr 1
  · split <;> rfl
  · congr 1
    exact List.map_congr_left fun x hx => ih x hx
/-- The node that a way leads to. -/
def node (t : LTree) : List Nat → Option LTree
  | [] => some t
  | i :: w => (t.parts[i]?).bind fun x => x.node w
def aheadN (a b : List Nat) : Bool := lexB (fun x y => decide (x < y)) a b
theorem waysL_all {q : List Nat → Prop} : ∀ (L : List (List (List Nat))) (i : Nat), (∀ j (hj : j < L.length), ∀ w, w ∈ L[j] → q ((i + j) :: w)) → ∀ w, w ∈ waysL i L → q w := by
  intro L
  induction L with
  | nil => intro i _ w hw; cases hw
  | cons x L ih =>
    intro i h w hw
    rcases List.mem_append.1 hw with hw | hw
    · obtain ⟨r, hr, rfl⟩ := List.mem_map.1 hw
      exact h 0 (by simp) r hr
    · refine ih (i + 1) (fun j hj r hr => ?_) w hw
      have := h (j + 1) (by simp; omega) r (by simpa using hr)
      rwa [show i + (j + 1) = i + 1 + j by omega] at this
theorem ways_node (u : LUser) (e : LTree) : ∀ w, w ∈ e.ways u → ∃ n, e.node w = some n ∧ u ∈ n.users := by
  induction e using LTree.ind with
  | h e ih =>
  intro w hw
  rw [ways_eq] at hw
  rcases List.mem_append.1 hw with hw | hw
  · split at hw
    · rename_i hu
      obtain rfl : w = [] := by simpa using hw
      exact ⟨e, rfl, hu⟩
    · cases hw
  · refine waysL_all (q := fun w => ∃ n, e.node w = some n ∧ u ∈ n.users) _ 0 (fun j hj r hr => ?_) w hw
    have hj' : j < e.parts.length := by simpa using hj
    have hr' : r ∈ (e.parts[j]).ways u := by simpa using hr
    obtain ⟨n, h1, h2⟩ := ih e.parts[j] (List.getElem_mem hj') r hr'
    refine ⟨n, ?_, h2⟩
    simp only [node, Nat.zero_add]
    rw [List.getElem?_eq_getElem hj']
    exact h1
theorem waysL_head : ∀ (L : List (List (List Nat))) (i : Nat) (w : List Nat), w ∈ waysL i L → ∃ j r, i ≤ j ∧ w = j :: r := by
  intro L i w hw
  exact waysL_all (q := fun w => ∃ j r, i ≤ j ∧ w = j :: r) L i (fun j hj r _ => ⟨i + j, r, by omega, rfl⟩) w hw
theorem waysL_ahead : ∀ (L : List (List (List Nat))) (i : Nat), (∀ ws, ws ∈ L → ws.Pairwise fun a b => aheadN a b = true) → (waysL i L).Pairwise fun a b => aheadN a b = true := by
  intro L
  induction L with
  | nil => intro i _; exact List.Pairwise.nil
  | cons x L ih =>
    intro i h
    refine List.pairwise_append.2 ⟨?_, ih (i + 1) fun ws hws => h ws (by simp [hws]), ?_⟩
    · exact List.Pairwise.map _ (fun a b hab => by unfold aheadN at hab ⊢; simp [lexB, hab]) (h x (by simp))
    · intro a ha b hb
      obtain ⟨r, _, rfl⟩ := List.mem_map.1 ha
      obtain ⟨j, s, hj, rfl⟩ := waysL_head L (i + 1) b hb
      unfold aheadN
      simp only [lexB, Bool.or_eq_true, decide_eq_true_eq]
      left; omega
theorem ways_ahead (u : LUser) (e : LTree) : (e.ways u).Pairwise fun a b => aheadN a b = true := by
  induction e using LTree.ind with
  | h e ih =>
  rw [ways_eq]
  refine List.pairwise_append.2 ⟨by split <;> simp, waysL_ahead _ 0 fun ws hws => ?_, ?_⟩
  · obtain ⟨x, hx, rfl⟩ := List.mem_map.1 hws
    exact ih x hx
  · intro a ha b hb
    obtain ⟨j, s, _, rfl⟩ := waysL_head _ 0 b hb
    split at ha
    · obtain rfl : a = [] := by simpa using ha
      rfl
    · cases ha
theorem count_le (u : LUser) (e : LTree) : e.count u ≤ e.natSize := by
  induction e using LTree.ind with
  | h e ih =>
  rw [count_eq, natSize_eq]
  have : ∀ ps : List LTree, (∀ x, x ∈ ps → x.count u ≤ x.natSize) → (ps.map (count u)).sum ≤ (ps.map natSize).sum := by
    intro ps
    induction ps with
    | nil => intro _; simp
    | cons x ps ih2 => intro h; have a := h x (by simp); have b := ih2 fun y hy => h y (by simp [hy]); simp only [List.map_cons, List.sum_cons]; omega
  have := this e.parts ih
  split <;> omega
end LTree
end Go.Proofs.YtnfkjodiielidaaGreatDoor
namespace Go.Proofs.YtnfkjodiielidaaGreatDoor
set_option linter.unusedVariables false
set_option linter.unusedSimpArgs false
open Go.RowKit

theorem attach_zipIdx {α β : Type} (F : α → Nat → β) (l : List α) (i : Nat) : (l.attach.zipIdx i).map (fun p => F p.1.1 p.2) = (l.zipIdx i).map fun p => F p.1 p.2 := by
  have h : l.attach.map (·.1) = l := List.attach_map_subtype_val l
  conv => rhs; rw [← h]
  rw [List.zipIdx_map, List.map_map]
  rfl
namespace LTree
/-- All nodes, each with the way to it, from above. -/
def nodes : LTree → List Nat → List (LTree × List Nat)
  | mk o us ps, way => (mk o us ps, way) :: (ps.attach.zipIdx.map fun p => p.1.1.nodes (way ++ [p.2])).flatten
termination_by t => SizeOf.sizeOf t
decreasing_by
  have h := p.1.2
  have := List.sizeOf_lt_of_mem h
  simp only [mk.sizeOf_spec]
  omega
def nodesL (way : List Nat) (ps : List LTree) (i : Nat) : List (LTree × List Nat) := ((ps.zipIdx i).map fun p => p.1.nodes (way ++ [p.2])).flatten
theorem nodes_eq (t : LTree) (way : List Nat) : t.nodes way = (t, way) :: nodesL way t.parts 0 := by
  cases t with
  | mk o us ps =>
    rw [nodes]
    congr 2
    exact attach_zipIdx (fun x i => nodes x (way ++ [i])) ps 0
theorem nodesL_cons (way : List Nat) (x : LTree) (ps : List LTree) (i : Nat) : nodesL way (x :: ps) i = x.nodes (way ++ [i]) ++ nodesL way ps (i + 1) := by
  unfold nodesL; simp [List.zipIdx_cons]
theorem nodesL_snoc (way : List Nat) (x : LTree) (ps : List LTree) (i : Nat) : nodesL way (ps ++ [x]) i = nodesL way ps i ++ x.nodes (way ++ [i + ps.length]) := by
  unfold nodesL; simp [List.zipIdx_append, List.zipIdx_cons]
theorem nodes_length (t : LTree) : ∀ way, (t.nodes way).length = t.natSize := by
  induction t using LTree.ind with
  | h t ih =>
  intro way
  rw [nodes_eq, natSize_eq, List.length_cons]
  congr 1
  have : ∀ (ps : List LTree) (i : Nat), (∀ x, x ∈ ps → ∀ way, (x.nodes way).length = x.natSize) → (nodesL way ps i).length = (ps.map natSize).sum := by
    intro ps
    induction ps with
    | nil => intro i _; rfl
    | cons x ps ih2 =>
      intro i h
      rw [nodesL_cons, List.length_append, h x (by simp), ih2 (i + 1) fun y hy => h y (by simp [hy])]
      simp
  exact this t.parts 0 ih
theorem nodes_ways (u : LUser) (t : LTree) : ∀ way, ((t.nodes way).filter fun n => decide (u ∈ n.1.users)).map (·.2) = (t.ways u).map (way ++ ·) := by
  induction t using LTree.ind with
  | h t ih =>
  intro way
  rw [nodes_eq, ways_eq]
  have : ∀ (ps : List LTree) (i : Nat), (∀ x, x ∈ ps → ∀ way, ((x.nodes way).filter fun n => decide (u ∈ n.1.users)).map (·.2) = (x.ways u).map (way ++ ·)) → ((nodesL way ps i).filter fun n => decide (u ∈ n.1.users)).map (·.2) = (waysL i (ps.map (ways u))).map (way ++ ·) := by
    intro ps
    induction ps with
    | nil => intro i _; rfl
    | cons x ps ih2 =>
      intro i h
      rw [nodesL_cons, List.filter_append, List.map_append, h x (by simp), ih2 (i + 1) fun y hy => h y (by simp [hy])]
      simp only [List.map_cons, waysL, List.map_append, List.map_map, Function.comp_def, List.append_assoc, List.singleton_append]
  by_cases hu : u ∈ t.users
  · simp only [List.filter_cons, hu, decide_true, if_true, List.map_cons, List.map_append, List.append_nil, this t.parts 0 ih, List.singleton_append, List.map_nil, List.cons_append, List.nil_append]
  · simp only [List.filter_cons, hu, decide_false, Bool.false_eq_true, if_false, List.nil_append, this t.parts 0 ih]
theorem depth_le (t : LTree) : ∀ (w way : List Nat) (x : LTree), (x, w) ∈ t.nodes way → w.length ≤ way.length + t.natSize := by
  induction t using LTree.ind with
  | h t ih =>
  intro w way x hx
  rw [nodes_eq] at hx
  rcases List.mem_cons.1 hx with hx | hx
  · injection hx with _ e; subst e; omega
  · unfold nodesL at hx
    obtain ⟨L, hL, hxL⟩ := List.mem_flatten.1 hx
    obtain ⟨⟨y, i⟩, hy, rfl⟩ := List.mem_map.1 hL
    have hym : y ∈ t.parts := by
      have := List.mem_map_of_mem (f := Prod.fst) hy
      rwa [List.zipIdx_map_fst] at this
    have h1 := ih y hym w _ x hxL
    simp only [List.length_append, List.length_cons, List.length_nil] at h1
    rw [natSize_eq t]
    have : ∀ ps : List LTree, y ∈ ps → y.natSize ≤ (ps.map natSize).sum := by
      intro ps
      induction ps with
      | nil => intro h; cases h
      | cons z ps ih2 =>
        intro h
        simp only [List.map_cons, List.sum_cons]
        rcases List.mem_cons.1 h with rfl | h
        · omega
        · have := ih2 h; omega
    have := this _ hym
    omega
/-- Few: at most so deep, of at most 40 users and parts a node, of short texts. -/
def shortU (u : LUser) : Bool := decide (u.kind.size ≤ 100) && decide (u.id.size ≤ 100) && decide (u.rel.size ≤ 100)
def few : Nat → LTree → Bool
  | 0, _ => false
  | n + 1, t => decide (t.users.length ≤ 40) && decide (t.parts.length ≤ 40) && t.users.all shortU && t.parts.all (few n)
theorem few_short (n : Nat) : ∀ t, few n t = true → ∀ u, u ∈ t.named → shortU u = true := by
  induction n with
  | zero => intro t h; simp [few] at h
  | succ n ih =>
    intro t h u hu
    simp only [few, Bool.and_eq_true, List.all_eq_true, decide_eq_true_eq] at h
    rw [named_eq] at hu
    rcases List.mem_append.1 hu with hu | hu
    · exact h.1.2 u hu
    · obtain ⟨L, hL, hxL⟩ := List.mem_flatten.1 hu
      obtain ⟨y, hy, rfl⟩ := List.mem_map.1 hL
      exact ih y (h.2 y hy) u hxL
theorem few_named (n : Nat) : ∀ t, few n t = true → t.named.length ≤ 40 * t.natSize := by
  induction n with
  | zero => intro t h; simp [few] at h
  | succ n ih =>
    intro t h
    simp only [few, Bool.and_eq_true, List.all_eq_true, decide_eq_true_eq] at h
    rw [named_eq, natSize_eq, List.length_append]
    have : ∀ ps : List LTree, (∀ x, x ∈ ps → x.named.length ≤ 40 * x.natSize) → (ps.map named).flatten.length ≤ 40 * (ps.map natSize).sum := by
      intro ps
      induction ps with
      | nil => intro _; simp
      | cons z ps ih2 =>
        intro h
        have a := h z (by simp)
        have b := ih2 fun x hx => h x (by simp [hx])
        simp only [List.map_cons, List.flatten_cons, List.length_append, List.sum_cons]
        omega
    have := this t.parts fun x hx => ih x (h.2 x hx)
    have := h.1.1.1
    omega
theorem few_lens (n : Nat) (t : LTree) (h : few (n + 1) t = true) : t.users.length ≤ 40 ∧ t.parts.length ≤ 40 ∧ ∀ x, x ∈ t.parts → few n x = true := by
  simp only [few, Bool.and_eq_true, List.all_eq_true, decide_eq_true_eq] at h
  exact ⟨h.1.1.1, h.1.1.2, h.2⟩
end LTree
end Go.Proofs.YtnfkjodiielidaaGreatDoor

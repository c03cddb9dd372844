/-
  Holders, neighbours on a path, and that a path passes Check: plain Lean. Conditions stand in each theorem.
-/
import Derived.Test.YtpkfenlfgdbkcaaGreatDoorGrp42
import Derived.Test.YtpkfenlfgdbkcaaGreatDoorP59Hold
import Derived.Test.YtpkfenlfgdbkcaaGreatDoorP59Chk
set_option linter.unusedSimpArgs false
set_option linter.unusedVariables false
namespace Go.Proofs.YtpkfenlfgdbkcaaGreatDoor
theorem path_first {G : List NodeC} {R : List IDE} {y x : IDE} {l : List IDE} (hl : pathsT G R y = some l) (hx : l[0]? = some x) : x ∈ R := by
  have h1 := path_begin hl hx
  obtain ⟨p, hp1, hp2, hp3⟩ := bfs_path G R G.length x _ h1
  have hp : p = [] := by
    have := congrArg List.length hp1
    rw [List.length_take, List.length_append, List.length_singleton] at this
    exact List.eq_nil_iff_length_eq_zero.2 (by omega)
  rcases hp3 with ⟨-, h⟩ | ⟨f, h, -⟩
  · exact h
  · rw [hp] at h
    obtain ⟨p', h2, -⟩ := bfs_path G R G.length f _ h
    simp at h2
theorem path_step {G : List NodeC} {R : List IDE} {z x y : IDE} {l : List IDE} {j : Nat} (hl : pathsT G R z = some l) (hx : l[j]? = some x) (hy : l[j + 1]? = some y) : y ∈ succI G x := by
  have h1 := path_begin hl hy
  obtain ⟨p, hp1, hp2, hp3⟩ := bfs_path G R G.length y _ h1
  have hjl : j + 1 < l.length := (List.getElem?_eq_some_iff.1 hy).1
  have hp : p = l.take (j + 1) := by
    have h2 : l.take (j + 1 + 1) = l.take (j + 1) ++ [y] := by rw [List.take_add_one, hy]; rfl
    rw [h2] at hp1
    exact (List.append_inj_left' hp1 rfl).symm
  rcases hp3 with ⟨h, -⟩ | ⟨f, h, h3⟩
  · rw [hp] at h
    have := congrArg List.length h
    rw [List.length_take, List.length_nil] at this
    omega
  · obtain ⟨p', h2, -⟩ := bfs_path G R G.length f _ h
    have h4 : l.take (j + 1) = l.take j ++ [x] := by rw [List.take_add_one, hx]; rfl
    rw [hp, h4] at h2
    have h5 := List.append_inj_right' h2 rfl
    injection h5 with h5
    rw [h5]; exact h3
theorem val_ref {V : List ViewE} {n : NodeC} (hn : n ∈ (graphV V).1) {v : ValE} (hv : v ∈ n.fields) (hk : v.kind = 2) : v = refV v.ref := by
  have h1 := graph_node hn
  unfold validNodeB at h1
  simp only [Bool.and_eq_true] at h1
  have h2 := List.all_eq_true.1 h1.1.1 v hv
  unfold validValB at h2
  rw [if_neg (by omega), if_neg (by omega), if_pos hk, Bool.and_eq_true] at h2
  have h3 := of_decide_eq_true h2.1
  obtain ⟨a, b, c, d⟩ := v
  simp only at hk h3
  subst hk h3
  rfl
theorem field_hit {n : NodeC} {y : IDE} (h : 0 ≤ fieldN n y) : n.kind ≠ 2 ∧ ∃ k : Nat, fieldN n y = (k : Int) ∧ n.fields[k]? = some (refV y) := by
  unfold fieldN at h ⊢
  by_cases hk : n.kind = 2
  · rw [if_pos hk] at h; omega
  rw [if_neg hk] at h ⊢
  refine ⟨hk, ?_⟩
  rcases idxOf_cases (fun v => decide (v = refV y)) n.fields with ⟨h1, -⟩ | ⟨k, x, h1, h2, h3, -⟩
  · rw [h1] at h; omega
  · exact ⟨k, h1, by rw [h2, of_decide_eq_true h3]⟩
theorem refV_kind (y : IDE) : (refV y).kind = 2 ∧ (refV y).ref = y := ⟨rfl, rfl⟩
theorem holds_iff {V : List ViewE} {n : NodeC} (hn : n ∈ (graphV V).1) {y : IDE} : 0 ≤ fieldN n y ↔ y ∈ refsOf n := by
  rw [refsOf_mem]
  constructor
  · intro h
    obtain ⟨h1, k, -, h2⟩ := field_hit h
    exact ⟨h1, refV y, List.mem_of_getElem? h2, rfl, rfl⟩
  · rintro ⟨h1, v, h2, h3, h4⟩
    have h5 := val_ref hn h2 h3
    rw [h4] at h5
    unfold fieldN
    rw [if_neg h1]
    rcases idxOf_cases (fun v => decide (v = refV y)) n.fields with ⟨h6, h7⟩ | ⟨k, x, h6, -⟩
    · obtain ⟨j, hj⟩ := List.getElem?_of_mem h2
      have := h7 j v (List.getElem?_eq_some_iff.1 hj).1 hj
      exact absurd ((decide_eq_true h5).symm.trans this) (by decide)
    · rw [h6]; omega
theorem graph_first {V : List ViewE} {n : NodeC} (hn : n ∈ (graphV V).1) : firstN (graphV V).1 n.id = some n := firstN_mem (union_sorted _) hn
theorem holder_mem {V : List ViewE} {id : IDE} (hg : (graphV V).2 = 0) {h : StepE} : h ∈ holdersV V id ↔ ∃ n ∈ (graphV V).1, id ∈ refsOf n ∧ stepV V (graphV V).1 n.id id = h := by
  unfold holdersV
  rw [if_neg (fun h => h hg), List.mem_map]
  constructor
  · rintro ⟨n, h1, h2⟩
    obtain ⟨h3, h4⟩ := List.mem_filter.1 h1
    exact ⟨n, h3, (holds_iff h3).1 (of_decide_eq_true h4), h2⟩
  · rintro ⟨n, h1, h2, h3⟩
    exact ⟨n, List.mem_filter.2 ⟨h1, decide_eq_true ((holds_iff h1).2 h2)⟩, h3⟩
/-- A holder that is reached: the path is longer by at most one. -/
theorem near_law {V : List ViewE} {id : IDE} (hg : (graphV V).2 = 0) (hid : (firstN (graphV V).1 id).isSome = true) {h : StepE} (hh : h ∈ holdersV V id) (hp : (pathV V ⟨h.iDMachine, h.iDSerial⟩).2 = 0) :
    (pathV V id).2 = 0 ∧ (pathV V id).1.length ≤ (pathV V ⟨h.iDMachine, h.iDSerial⟩).1.length + 1 := by
  obtain ⟨n, h1, h2, h3⟩ := (holder_mem hg).1 hh
  have hx : (⟨h.iDMachine, h.iDSerial⟩ : IDE) = n.id := by rw [← h3]; rfl
  rw [hx] at hp ⊢
  obtain ⟨-, l, hl⟩ := pathV_inv (V := V) (id := n.id) (.inr hp)
  obtain ⟨m, hm, hml⟩ := path_near hl ((succ_of (graph_first h1)).2 h2) hid
  rw [(pathV_some hg hl).1, (pathV_some hg hm).1]
  refine ⟨rfl, ?_⟩
  show (stepsV V (graphV V).1 m).length ≤ (stepsV V (graphV V).1 l).length + 1
  rw [steps_len, steps_len]
  exact hml
/-- The last step but one is a holder. -/
theorem found_law {V : List ViewE} {id : IDE} {n : Nat} (h : (pathV V id).1.length = n + 2) : ∃ s ∈ holdersV V id, (pathV V id).1[n]? = some s := by
  obtain ⟨hg, l, hl⟩ := pathV_inv (V := V) (id := id) (.inl (fun e => by rw [e] at h; simp at h))
  rw [(pathV_some hg hl).1] at h ⊢
  replace h : (stepsV V (graphV V).1 l).length = n + 2 := h
  rw [steps_len] at h
  have hx : l[n]? = some l[n] := List.getElem?_eq_getElem (by omega)
  have hlast : l[n + 1]? = some id := by
    obtain ⟨p, hp1, -⟩ := bfs_path (graphV V).1 (rootsV V) (graphV V).1.length id l hl
    have h1 : p.length = n + 1 := by have := congrArg List.length hp1; rw [List.length_append, List.length_singleton] at this; omega
    rw [hp1, List.getElem?_append_right (by omega), h1]
    simp
  have hs := path_step hl hx hlast
  have hb := path_begin hl hx
  obtain ⟨p, -, hp2, -⟩ := bfs_path (graphV V).1 (rootsV V) (graphV V).1.length l[n] _ hb
  obtain ⟨m, hm⟩ := Option.isSome_iff_exists.1 hp2
  obtain ⟨h1, h2⟩ := firstN_some hm
  refine ⟨stepV V (graphV V).1 m.id id, (holder_mem hg).2 ⟨m, h1, (succ_of hm).1 hs, rfl⟩, ?_⟩
  show (stepsV V (graphV V).1 l)[n]? = _
  rw [steps_get, if_pos (by omega), if_neg (by omega)]
  congr 1
  unfold stepAt
  rw [List.getD_eq_getElem?_getD, List.getD_eq_getElem?_getD, hx, hlast, h2]
  rfl
/-! ### A path passes Check -/
theorem chain_law {V : List ViewE} {l : List IDE} {z : IDE} (hl : pathsT (graphV V).1 (rootsV V) z = some l) : ∀ (d k : Nat), k + d = l.length → 0 < d → chainB V (graphV V).1 ((stepsV V (graphV V).1 l).drop k) = true
  | 0, _, _, h => by cases h
  | d + 1, k, hk, _ => by
    have hx : l[k]? = some l[k] := List.getElem?_eq_getElem (by omega)
    have hb := path_begin hl hx
    obtain ⟨p, -, hp2, -⟩ := bfs_path (graphV V).1 (rootsV V) (graphV V).1.length l[k] _ hb
    obtain ⟨s, hs⟩ : ∃ s, (stepsV V (graphV V).1 l)[k]? = some s := ⟨_, List.getElem?_eq_getElem (by rw [steps_len]; omega)⟩
    have hdrop : (stepsV V (graphV V).1 l).drop k = s :: (stepsV V (graphV V).1 l).drop (k + 1) := by
      have hlt := (List.getElem?_eq_some_iff.1 hs).1
      rw [List.drop_eq_getElem_cons hlt]; congr 1; exact (List.getElem?_eq_some_iff.1 hs).2
    have hid : s.id = l[k] := by
      have := step_id hs
      rw [hx] at this
      injection this with this
      exact this.symm
    have hs2 := hs
    rw [steps_get, if_pos (by omega)] at hs2
    injection hs2 with hs2
    have hmach : s.machine = (homeV V l[k]).1 := by
      have h1 : l.getD k zeroI = l[k] := by rw [List.getD_eq_getElem?_getD, hx]; rfl
      rw [← hs2, ← h1]
      split <;> rfl
    have hhead : headB V (graphV V).1 s = true := by
      unfold headB
      rw [hid, hp2, hmach, decide_eq_true rfl]
      rfl
    rw [hdrop]
    by_cases hd : d = 0
    · subst hd
      rw [List.drop_eq_nil_of_le (by rw [steps_len]; omega)]
      show (headB V (graphV V).1 s && decide (s.field = -1)) = true
      rw [hhead, ← hs2, if_pos (by omega)]
      rfl
    · have hy : l[k + 1]? = some l[k + 1] := List.getElem?_eq_getElem (by omega)
      obtain ⟨t, ht⟩ : ∃ t, (stepsV V (graphV V).1 l)[k + 1]? = some t := ⟨_, List.getElem?_eq_getElem (by rw [steps_len]; omega)⟩
      have ih := chain_law hl d (k + 1) (by omega) (by omega)
      have hdrop2 : (stepsV V (graphV V).1 l).drop (k + 1) = t :: (stepsV V (graphV V).1 l).drop (k + 1 + 1) := by
        have hlt := (List.getElem?_eq_some_iff.1 ht).1
        rw [List.drop_eq_getElem_cons hlt]; congr 1; exact (List.getElem?_eq_some_iff.1 ht).2
      have htid : t.id = l[k + 1] := by
        have := step_id ht
        rw [hy] at this
        injection this with this
        exact this.symm
      rw [hdrop2] at ih ⊢
      show (headB V (graphV V).1 s && (linkB (graphV V).1 s t.id && chainB V (graphV V).1 (t :: _))) = true
      rw [hhead, ih, Bool.and_true, Bool.true_and]
      obtain ⟨m, hm⟩ := Option.isSome_iff_exists.1 hp2
      obtain ⟨h1, h2⟩ := firstN_some hm
      have h3 := (succ_of hm).1 (path_step hl hx hy)
      obtain ⟨h4, j, h5, h6⟩ := field_hit ((holds_iff h1).2 h3)
      have hfield : s.field = (j : Int) := by
        rw [← hs2, if_neg (by omega), ← h5]
        unfold stepAt stepV
        rw [List.getD_eq_getElem?_getD, List.getD_eq_getElem?_getD, hx, hy]
        show fieldN ((firstN (graphV V).1 l[k]).getD zeroC) l[k + 1] = _
        rw [hm]; rfl
      unfold linkB
      rw [hid, hm, hfield, htid]
      show (!decide (m.kind = 2) && decide (0 ≤ (j : Int) ∧ (j : Int) < (m.fields.length : Int)) && decide (m.fields[((j : Int)).toNat]? = some (refV l[k + 1]))) = true
      have hjl := (List.getElem?_eq_some_iff.1 h6).1
      rw [decide_eq_false h4, decide_eq_true (show 0 ≤ (j : Int) ∧ (j : Int) < (m.fields.length : Int) from ⟨by omega, by omega⟩), show ((j : Int)).toNat = j from rfl, h6]
      simp
theorem check_law {V : List ViewE} {id : IDE} (h : (pathV V id).2 = 0) : checkB V (pathV V id).1 = true := by
  obtain ⟨hg, l, hl⟩ := pathV_inv (V := V) (id := id) (.inr h)
  obtain ⟨h1, h2, -⟩ := pathV_some hg hl
  have hpos := List.length_pos_iff.2 h2
  rw [h1]
  show checkB V (stepsV V (graphV V).1 l) = true
  have hc := chain_law hl l.length 0 (by omega) hpos
  rw [List.drop_zero] at hc
  unfold checkB
  rw [hg, hc]
  obtain ⟨s, hs⟩ : ∃ s, (stepsV V (graphV V).1 l)[0]? = some s := ⟨_, List.getElem?_eq_getElem (by rw [steps_len]; omega)⟩
  have hr := path_first hl (step_id hs)
  cases hst : stepsV V (graphV V).1 l with
  | nil => rw [hst] at hs; cases hs
  | cons a t =>
    rw [hst] at hs
    injection hs with hs
    subst hs
    show ((true && decide (a.id ∈ rootsV V)) && true) = true
    rw [decide_eq_true (show a.id ∈ rootsV V from hr)]
    rfl
/-- A path ends at its identity. -/
theorem path_last {V : List ViewE} {id : IDE} {n : Nat} (h : (pathV V id).1.length = n + 1) : ∃ s, (pathV V id).1[n]? = some s ∧ s.id = id := by
  obtain ⟨hg, l, hl⟩ := pathV_inv (V := V) (id := id) (.inl (fun e => by rw [e] at h; simp at h))
  rw [(pathV_some hg hl).1] at h ⊢
  replace h : (stepsV V (graphV V).1 l).length = n + 1 := h
  obtain ⟨s, hs⟩ : ∃ s, (stepsV V (graphV V).1 l)[n]? = some s := ⟨_, List.getElem?_eq_getElem (by omega)⟩
  refine ⟨s, hs, ?_⟩
  rw [steps_len] at h
  have hlast : l[n]? = some id := by
    obtain ⟨p, hp1, -⟩ := bfs_path (graphV V).1 (rootsV V) (graphV V).1.length id l hl
    have h1 : p.length = n := by have := congrArg List.length hp1; rw [List.length_append, List.length_singleton] at this; omega
    rw [hp1, List.getElem?_append_right (by omega), h1]
    simp
  have := step_id hs
  rw [hlast] at this
  injection this with this
  exact this.symm
end Go.Proofs.YtpkfenlfgdbkcaaGreatDoor

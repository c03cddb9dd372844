/-
  Small texts of this seat, put into one. Conditions stand in each theorem.
-/
import Derived.Test.YtpkfenlfgdbkcaaGreatDoorGrp36
import Derived.Test.YtpkfenlfgdbkcaaGreatDoorP59Path
set_option linter.unusedSimpArgs false
set_option linter.unusedVariables false
namespace Go.Proofs.YtpkfenlfgdbkcaaGreatDoor
/-- Each path ends at its node; what is ahead of the end is the path of a node that leads there. -/
def PathOk (G : List NodeC) (R : List IDE) (st : PathM × List IDE) : Prop := ∀ y l, st.1 y = some l → ∃ p, l = p ++ [y] ∧ (firstN G y).isSome = true ∧ ((p = [] ∧ y ∈ R) ∨ ∃ f, st.1 f = some p ∧ y ∈ succI G f)
theorem PathOk.visit {G : List NodeC} {R : List IDE} {p : List IDE} {st : PathM × List IDE} {y : IDE} (h : PathOk G R st) (hp : (p = [] ∧ y ∈ R) ∨ ∃ f, st.1 f = some p ∧ y ∈ succI G f) : PathOk G R (visitT G p st y) := by
  have hm := mono_visit (G := G) (p := p) (st := st) (y := y)
  rcases visitT_cases G p st y with ⟨e, -⟩ | ⟨h1, h2, e⟩
  · rw [e]; exact h
  · rw [e] at hm ⊢
    intro z l hz
    change mupd st.1 y (p ++ [y]) z = some l at hz
    unfold mupd at hz
    split at hz
    · next hzy =>
      subst hzy
      injection hz with hz
      exact ⟨p, hz.symm, h1, hp.imp id fun ⟨f, h3, h4⟩ => ⟨f, hm.p f p h3, h4⟩⟩
    · obtain ⟨q, h3, h4, h5⟩ := h z l hz
      exact ⟨q, h3, h4, h5.imp id fun ⟨f, h6, h7⟩ => ⟨f, hm.p f q h6, h7⟩⟩
theorem PathOk.fold {G : List NodeC} {R : List IDE} {p : List IDE} : ∀ {ys : List IDE} {st : PathM × List IDE}, PathOk G R st → (∀ y ∈ ys, (p = [] ∧ y ∈ R) ∨ ∃ f, st.1 f = some p ∧ y ∈ succI G f) → PathOk G R (ys.foldl (visitT G p) st)
  | [], _, h, _ => h
  | y :: ys, st, h, hp => PathOk.fold (ys := ys) (h.visit (hp y List.mem_cons_self)) fun z hz => (hp z (List.mem_cons_of_mem _ hz)).imp id fun ⟨f, h1, h2⟩ => ⟨f, mono_visit.p f p h1, h2⟩
theorem bfs_path (G : List NodeC) (R : List IDE) : ∀ n, PathOk G R (bfsT G R n)
  | 0 => PathOk.fold (fun _ _ h => by cases h) fun y hy => .inl ⟨rfl, setI_mem.1 hy⟩
  | n + 1 => by
    unfold bfsT
    split
    · next x hx =>
      obtain ⟨p, hp⟩ := path_some (List.mem_of_getElem? hx)
      unfold nextsT
      rw [hp]
      exact PathOk.fold (bfs_path G R n) fun y hy => .inr ⟨x, hp, hy⟩
    · exact bfs_path G R n
/-- A beginning of a path is the path of the node at which it ends. -/
theorem path_begin {G : List NodeC} {R : List IDE} : ∀ {l : List IDE} {y : IDE} {k : Nat} {x : IDE}, pathsT G R y = some l → l[k]? = some x → pathsT G R x = some (l.take (k + 1)) := by
  intro l
  induction hl : l.length generalizing l with
  | zero => intro y k x _ hx; rw [List.eq_nil_iff_length_eq_zero.2 hl] at hx; cases hx
  | succ n ih =>
    intro y k x hy hx
    obtain ⟨p, h1, h2, h3⟩ := bfs_path G R G.length y l hy
    have hpl : p.length = n := by rw [h1, List.length_append, List.length_singleton] at hl; omega
    rcases Nat.lt_or_ge k n with hk | hk
    · rcases h3 with ⟨h3, -⟩ | ⟨f, h3, -⟩
      · subst h3; simp at hpl; omega
      · have hx' : p[k]? = some x := by rw [h1, List.getElem?_append_left (by omega)] at hx; exact hx
        have := ih hpl h3 hx'
        rw [this, h1, List.take_append_of_le_length (by omega)]
    · have hkn : k = n := by have := (List.getElem?_eq_some_iff.1 hx).1; omega
      subst hkn
      have hxy : x = y := by
        rw [h1, List.getElem?_append_right (by omega), hpl, Nat.sub_self] at hx
        simpa using hx.symm
      subst hxy
      rw [List.take_of_length_le (by omega)]
      exact hy
theorem visit_in {G : List NodeC} {p : List IDE} {st : PathM × List IDE} {y : IDE} (hy : (firstN G y).isSome = true) : ((visitT G p st y).1 y).isSome = true := by
  rcases visitT_cases G p st y with ⟨e, h⟩ | ⟨-, -, e⟩
  · rw [e]; exact h hy
  · rw [e]; show (mupd st.1 y (p ++ [y]) y).isSome = true; unfold mupd; rw [if_pos rfl]; rfl
theorem fold_in {G : List NodeC} {p : List IDE} : ∀ {ys : List IDE} {st : PathM × List IDE} {y : IDE}, y ∈ ys → (firstN G y).isSome = true → ((ys.foldl (visitT G p) st).1 y).isSome = true
  | z :: ys, st, y, hm, hy => by
    rcases List.mem_cons.1 hm with rfl | hm
    · obtain ⟨l, hl⟩ := Option.isSome_iff_exists.1 (visit_in (p := p) (st := st) hy)
      rw [List.foldl_cons, (mono_fold (ys := ys)).p y l hl]; rfl
    · exact fold_in (ys := ys) hm hy
/-- A root of the graph, and what a node leads to that has been left, has a path. -/
theorem bfs_roots {G : List NodeC} {R : List IDE} {y : IDE} (hm : y ∈ R) (hy : (firstN G y).isSome = true) (n : Nat) : ((bfsT G R n).1 y).isSome = true := by
  obtain ⟨l, hl⟩ := Option.isSome_iff_exists.1 (show ((bfsT G R 0).1 y).isSome = true from fold_in (setI_mem.2 hm) hy)
  rw [(bfs_mono (Nat.zero_le n)).p y l hl]; rfl
theorem bfs_closed {G : List NodeC} {R : List IDE} {k n : Nat} (hk : k < n) {x y : IDE} (hx : (bfsT G R k).2[k]? = some x) (hm : y ∈ succI G x) (hy : (firstN G y).isSome = true) : ((bfsT G R n).1 y).isSome = true := by
  have h1 : ((bfsT G R (k + 1)).1 y).isSome = true := by rw [bfs_next hx]; exact fold_in hm hy
  obtain ⟨l, hl⟩ := Option.isSome_iff_exists.1 h1
  rw [(bfs_mono hk).p y l hl]; rfl
/-- The search is over when as many nodes have been left as there are. -/
theorem bfs_end {G : List NodeC} {R : List IDE} {x y : IDE} {l : List IDE} (hx : pathsT G R x = some l) (hm : y ∈ succI G x) (hy : (firstN G y).isSome = true) : (pathsT G R y).isSome = true := by
  have hmem : x ∈ (bfsT G R G.length).2 := ((bfs_ok G R G.length).mem x).2 (by show (pathsT G R x).isSome = true; rw [hx]; rfl)
  obtain ⟨k, hk⟩ := List.getElem?_of_mem hmem
  have hkl := (List.getElem?_eq_some_iff.1 hk).1
  have hlen := (bfs_ok G R G.length).len
  have hkG : k < G.length := by omega
  -- node k stands in the state of k nodes left: what is left is never behind
  have hin : (bfsT G R k).2[k]? = some x := by
    obtain ⟨e, he⟩ := (bfs_mono (G := G) (R := R) (Nat.le_of_lt hkG)).o
    rcases Nat.lt_or_ge k (bfsT G R k).2.length with h | h
    · rw [he, List.getElem?_append_left h] at hk; exact hk
    · have hs := bfs_stop (G := G) (R := R) (n := k) h (G.length - k)
      rw [Nat.add_sub_cancel' (Nat.le_of_lt hkG)] at hs
      rw [hs] at hkl
      omega
  exact bfs_closed hkG hin hm hy
theorem paths_root {G : List NodeC} {R : List IDE} {y : IDE} (hm : y ∈ R) (hy : (firstN G y).isSome = true) : (pathsT G R y).isSome = true := bfs_roots hm hy _
theorem succ_of {G : List NodeC} {x y : IDE} {n : NodeC} (hn : firstN G x = some n) : y ∈ succI G x ↔ y ∈ refsOf n := by unfold succI; rw [hn, setI_mem]; rfl
/-- A node has a path if and only if it is reached. -/
theorem path_reach {G : List NodeC} {R : List IDE} {y : IDE} : (pathsT G R y).isSome = true ↔ Reach G R y := by
  constructor
  · intro h
    obtain ⟨l, hl⟩ := Option.isSome_iff_exists.1 h
    clear h
    induction hn : l.length generalizing l y with
    | zero =>
      obtain ⟨p, h1, -, -⟩ := bfs_path G R G.length y l hl
      rw [h1] at hn; simp at hn
    | succ n ih =>
      obtain ⟨p, h1, h2, h3⟩ := bfs_path G R G.length y l hl
      have hp : p.length = n := by rw [h1, List.length_append, List.length_singleton] at hn; omega
      rcases h3 with ⟨-, h3⟩ | ⟨f, h3, h4⟩
      · exact .root h3 h2
      · have hf := ih p h3 hp
        obtain ⟨m, hm⟩ := Option.isSome_iff_exists.1 hf.node
        exact .step hf hm ((succ_of hm).1 h4) h2
  · intro h
    induction h with
    | root hr hy => exact paths_root hr hy
    | step _ hn hy hyn ih =>
      obtain ⟨l, hl⟩ := Option.isSome_iff_exists.1 ih
      exact bfs_end hl ((succ_of hn).2 hy) hyn
/-! ### Levels -/
/-- The paths stand in the order of their lengths, none longer than d + 1. -/
structure Lv (st : PathM × List IDE) (d : Nat) : Prop where
  srt : ∀ (i j : Nat) (x y : IDE) (l m : List IDE), i ≤ j → st.2[i]? = some x → st.2[j]? = some y → st.1 x = some l → st.1 y = some m → l.length ≤ m.length
  bd : ∀ y l, st.1 y = some l → l.length ≤ d + 1
theorem Lv.visit {G : List NodeC} {p : List IDE} {st : PathM × List IDE} {y : IDE} (h : Lv st p.length) (ho : BfsOk G st) : Lv (visitT G p st y) p.length := by
  have hm := mono_visit (G := G) (p := p) (st := st) (y := y)
  rcases visitT_cases G p st y with ⟨e, -⟩ | ⟨h1, h2, e⟩
  · rw [e]; exact h
  · rw [e] at hm ⊢
    have hT : ∀ z l, mupd st.1 y (p ++ [y]) z = some l → (z = y ∧ l.length = p.length + 1) ∨ (z ≠ y ∧ st.1 z = some l) := fun z l hz => by
      unfold mupd at hz
      split at hz
      · next hzy => injection hz with hz; exact .inl ⟨hzy, by rw [← hz]; simp⟩
      · next hzy => exact .inr ⟨hzy, hz⟩
    have hb : ∀ z l, mupd st.1 y (p ++ [y]) z = some l → l.length ≤ p.length + 1 := fun z l hz => by
      rcases hT z l hz with ⟨-, h3⟩ | ⟨-, h3⟩
      · omega
      · exact h.bd z l h3
    refine ⟨fun i j a b l m hij ha hbb hl hmm => ?_, hb⟩
    change (st.2 ++ [y])[i]? = some a at ha
    change (st.2 ++ [y])[j]? = some b at hbb
    rcases hT b m hmm with ⟨-, h3⟩ | ⟨h3, h4⟩
    · have := hb a l hl; omega
    · have hj : j < st.2.length := by
        rcases Nat.lt_or_ge j st.2.length with h5 | h5
        · exact h5
        · rw [List.getElem?_append_right h5] at hbb
          cases hjj : j - st.2.length with
          | zero => rw [hjj] at hbb; simp at hbb; exact absurd hbb.symm h3
          | succ q => rw [hjj] at hbb; simp at hbb
      rw [List.getElem?_append_left hj] at hbb
      rw [List.getElem?_append_left (by omega)] at ha
      have hay : a ≠ y := fun e => by
        have := (ho.mem a).1 (List.mem_of_getElem? ha)
        rw [e, h2] at this; cases this
      rcases hT a l hl with ⟨h5, -⟩ | ⟨-, h5⟩
      · exact absurd h5 hay
      · exact h.srt i j a b l m hij ha hbb h5 h4
theorem Lv.fold {G : List NodeC} {p : List IDE} : ∀ {ys : List IDE} {st : PathM × List IDE}, Lv st p.length → BfsOk G st → Lv (ys.foldl (visitT G p) st) p.length
  | [], _, h, _ => h
  | _ :: ys, _, h, ho => Lv.fold (ys := ys) (h.visit ho) ho.visit
/-- Ahead of each node that is left next the paths stand in order, and none is longer by more than one than its own. -/
theorem bfs_lv (G : List NodeC) (R : List IDE) : ∀ n, ∃ d, Lv (bfsT G R n) d ∧ ∀ x p, (bfsT G R n).2[n]? = some x → (bfsT G R n).1 x = some p → d ≤ p.length
  | 0 => ⟨0, Lv.fold (p := []) ⟨fun _ _ _ _ _ _ _ h => (by cases h), fun _ _ h => by cases h⟩ ⟨List.nodup_nil, fun y => by simp, fun y hy => by cases hy⟩, fun _ _ _ _ => Nat.zero_le _⟩
  | n + 1 => by
    obtain ⟨d, h1, h2⟩ := bfs_lv G R n
    cases hx : (bfsT G R n).2[n]? with
    | none =>
      have he : bfsT G R (n + 1) = bfsT G R n := by conv => lhs; unfold bfsT; rw [hx]
      refine ⟨d, he ▸ h1, fun x p h3 _ => ?_⟩
      rw [he, List.getElem?_eq_none (by have := List.getElem?_eq_none_iff.1 hx; omega)] at h3
      cases h3
    | some x =>
      obtain ⟨p, hp⟩ := path_some (List.mem_of_getElem? hx)
      have hd := h2 x p hx hp
      have h1' : Lv (bfsT G R n) p.length := ⟨h1.srt, fun y l hy => by have := h1.bd y l hy; omega⟩
      have he : bfsT G R (n + 1) = (succI G x).foldl (visitT G p) (bfsT G R n) := by rw [bfs_next hx]; unfold nextsT; rw [hp]; rfl
      have h3 : Lv (bfsT G R (n + 1)) p.length := by rw [he]; exact h1'.fold (bfs_ok G R n)
      exact ⟨p.length, h3, fun z q hz hq => h3.srt n (n + 1) x z p q (by omega) (bfs_old (Nat.le_succ n) hx) hz ((bfs_mono (Nat.le_succ n)).p x p hp) hq⟩
/-- A followed field's path is at most one longer. -/
theorem path_near {G : List NodeC} {R : List IDE} {x y : IDE} {l : List IDE} (hx : pathsT G R x = some l) (hm : y ∈ succI G x) (hy : (firstN G y).isSome = true) : ∃ m, pathsT G R y = some m ∧ m.length ≤ l.length + 1 := by
  have hmem : x ∈ (bfsT G R G.length).2 := ((bfs_ok G R G.length).mem x).2 (by show (pathsT G R x).isSome = true; rw [hx]; rfl)
  obtain ⟨k, hk⟩ := List.getElem?_of_mem hmem
  have hkl := (List.getElem?_eq_some_iff.1 hk).1
  have hlen := (bfs_ok G R G.length).len
  have hkG : k < G.length := by omega
  have hin : (bfsT G R k).2[k]? = some x := by
    obtain ⟨e, he⟩ := (bfs_mono (G := G) (R := R) (Nat.le_of_lt hkG)).o
    rcases Nat.lt_or_ge k (bfsT G R k).2.length with h | h
    · rw [he, List.getElem?_append_left h] at hk; exact hk
    · have hs := bfs_stop (G := G) (R := R) (n := k) h (G.length - k)
      rw [Nat.add_sub_cancel' (Nat.le_of_lt hkG)] at hs
      rw [hs] at hkl
      omega
  have hxk : (bfsT G R k).1 x = some l := by rw [paths_at hin, hx]
  obtain ⟨d, h1, h2⟩ := bfs_lv G R k
  have hd := h2 x l hin hxk
  have h3 : Lv (bfsT G R k) l.length := ⟨h1.srt, fun z q hz => by have := h1.bd z q hz; omega⟩
  have h4 : Lv (bfsT G R (k + 1)) l.length := by rw [bfs_next hin]; unfold nextsT; rw [hxk]; exact h3.fold (bfs_ok G R k)
  have h5 : ((bfsT G R (k + 1)).1 y).isSome = true := bfs_closed (Nat.lt_succ_self k) hin hm hy
  obtain ⟨m, hm'⟩ := Option.isSome_iff_exists.1 h5
  exact ⟨m, (bfs_mono (G := G) (R := R) hkG).p y m hm', h4.bd y m hm'⟩
end Go.Proofs.YtpkfenlfgdbkcaaGreatDoor

namespace Go.Proofs.YtpkfenlfgdbkcaaGreatDoor
theorem raw_get (V : List ViewE) (G : List NodeC) (l : List IDE) (n j : Nat) : (stepsRaw V G l n)[j]? = if j < n then some (stepAt V G l j) else none := by
  unfold stepsRaw
  rw [List.getElem?_map]
  by_cases h : j < n
  · rw [if_pos h, List.getElem?_range h]; rfl
  · rw [if_neg h, List.getElem?_eq_none (by rw [List.length_range]; omega)]; rfl
theorem raw_len (V : List ViewE) (G : List NodeC) (l : List IDE) (n : Nat) : (stepsRaw V G l n).length = n := by unfold stepsRaw; rw [List.length_map, List.length_range]
theorem steps_len (V : List ViewE) (G : List NodeC) (l : List IDE) : (stepsV V G l).length = l.length := by unfold stepsV; rw [List.length_set, raw_len]
theorem steps_get (V : List ViewE) (G : List NodeC) (l : List IDE) (j : Nat) : (stepsV V G l)[j]? = if j < l.length then some (if j = l.length - 1 then { stepAt V G l j with field := -1 } else stepAt V G l j) else none := by
  unfold stepsV
  rw [List.getElem?_set, raw_get, raw_len]
  by_cases h : j < l.length
  · rw [if_pos h, if_pos h]
    by_cases h2 : l.length - 1 = j
    · rw [if_pos h2, if_pos (by omega), if_pos h2.symm, h2]
    · rw [if_neg h2, if_neg (fun e => h2 e.symm)]
  · rw [if_neg h, if_neg h]
    by_cases h2 : l.length - 1 = j
    · rw [if_pos h2, if_neg (by omega)]
    · rw [if_neg h2]
theorem stepAt_id (V : List ViewE) (G : List NodeC) (l : List IDE) (j : Nat) : (⟨(stepAt V G l j).iDMachine, (stepAt V G l j).iDSerial⟩ : IDE) = l.getD j zeroI := rfl
theorem steps_take (V : List ViewE) (G : List NodeC) (l : List IDE) (k : Nat) (s : StepE) (hs : (stepsV V G l)[k]? = some s) : stepsV V G (l.take (k + 1)) = ((stepsV V G l).take (k + 1)).set k { s with field := -1 } := by
  have hk : k < l.length := by have := (List.getElem?_eq_some_iff.1 hs).1; rwa [steps_len] at this
  have hl : (l.take (k + 1)).length = k + 1 := by rw [List.length_take]; omega
  apply List.ext_getElem?
  intro j
  rw [steps_get, hl, List.getElem?_set, List.length_take, steps_len]
  by_cases hj : j < k + 1
  · rw [if_pos hj]
    have hgd : (l.take (k + 1)).getD j zeroI = l.getD j zeroI := by rw [List.getD_eq_getElem?_getD, List.getD_eq_getElem?_getD, List.getElem?_take, if_pos hj]
    by_cases hjk : j = k
    · subst hjk
      rw [if_pos (by omega), if_pos rfl, if_pos (by omega)]
      rw [steps_get, if_pos hk] at hs
      injection hs with hs
      congr 1
      have h1 : ({ s with field := -1 } : StepE) = { stepAt V G l j with field := -1 } := by
        rw [← hs]
        split <;> rfl
      rw [h1]
      unfold stepAt stepV
      rw [hgd]
    · rw [if_neg (by omega), if_neg (fun e => hjk e.symm), List.getElem?_take, if_pos hj, steps_get, if_pos (by omega), if_neg (by omega)]
      congr 1
      unfold stepAt
      rw [hgd]
      congr 1
      rw [List.getD_eq_getElem?_getD, List.getD_eq_getElem?_getD, List.getElem?_take, if_pos (by omega)]
  · rw [if_neg hj, if_neg (by omega), List.getElem?_take, if_neg hj]
theorem pathV_some {V : List ViewE} {id : IDE} {l : List IDE} (hg : (graphV V).2 = 0) (hp : pathsT (graphV V).1 (rootsV V) id = some l) : pathV V id = (stepsV V (graphV V).1 l, 0) ∧ l ≠ [] ∧ (firstN (graphV V).1 id).isSome = true := by
  obtain ⟨p, hp1, hp2, -⟩ := bfs_path (graphV V).1 (rootsV V) (graphV V).1.length id l hp
  have hne : l ≠ [] := by rw [hp1]; simp
  have hs : searchL (graphV V).1 (rootsV V) id = l := by unfold searchL; rw [hp]; rfl
  refine ⟨?_, hne, hp2⟩
  unfold pathV
  rw [if_neg (fun h => h hg), if_neg (by rw [hp2]; simp), hs, if_neg hne]
theorem pathV_inv {V : List ViewE} {id : IDE} (h : (pathV V id).1 ≠ [] ∨ (pathV V id).2 = 0) : (graphV V).2 = 0 ∧ ∃ l, pathsT (graphV V).1 (rootsV V) id = some l := by
  unfold pathV at h
  by_cases hg : (graphV V).2 = 0
  rotate_left
  · rw [if_pos hg] at h
    rcases h with h | h
    · exact absurd rfl h
    · exact absurd h hg
  refine ⟨hg, ?_⟩
  rw [if_neg (fun h => h hg)] at h
  by_cases hf : (firstN (graphV V).1 id).isSome = false
  · rw [if_pos hf] at h
    rcases h with h | h
    · exact absurd rfl h
    · cases h
  rw [if_neg hf] at h
  by_cases hl : searchL (graphV V).1 (rootsV V) id = []
  · rw [if_pos hl] at h
    rcases h with h | h
    · exact absurd rfl h
    · cases h
  unfold searchL at hl
  cases hp : pathsT (graphV V).1 (rootsV V) id with
  | none => rw [hp] at hl; exact absurd rfl hl
  | some l => exact ⟨l, rfl⟩
theorem step_id {V : List ViewE} {G : List NodeC} {l : List IDE} {k : Nat} {s : StepE} (hs : (stepsV V G l)[k]? = some s) : l[k]? = some (⟨s.iDMachine, s.iDSerial⟩ : IDE) := by
  have hk : k < l.length := by have := (List.getElem?_eq_some_iff.1 hs).1; rwa [steps_len] at this
  have h1 := hs
  rw [steps_get, if_pos hk] at h1
  injection h1 with h1
  have h2 : (⟨s.iDMachine, s.iDSerial⟩ : IDE) = l.getD k zeroI := by
    rw [← h1, ← stepAt_id V G l k]
    split <;> rfl
  rw [h2, List.getD_eq_getElem?_getD, List.getElem?_eq_getElem hk]; rfl
/-- The law. -/
theorem begin_law {V : List ViewE} {id : IDE} {k : Nat} {s : StepE} (hs : (pathV V id).1[k]? = some s) : pathV V ⟨s.iDMachine, s.iDSerial⟩ = (((pathV V id).1.take (k + 1)).set k { s with field := -1 }, 0) := by
  obtain ⟨hg, l, hl⟩ := pathV_inv (V := V) (id := id) (.inl (fun e => by rw [e] at hs; simp at hs))
  rw [(pathV_some hg hl).1] at hs ⊢
  replace hs : (stepsV V (graphV V).1 l)[k]? = some s := hs
  rw [(pathV_some hg (path_begin hl (step_id hs))).1, steps_take V _ l k s hs]
/-- A path that is there is not empty. -/
theorem path_pos {V : List ViewE} {id : IDE} (h : (pathV V id).2 = 0) : 0 < (pathV V id).1.length := by
  obtain ⟨hg, l, hl⟩ := pathV_inv (V := V) (id := id) (.inr h)
  obtain ⟨h1, h2, -⟩ := pathV_some hg hl
  rw [h1]
  show 0 < (stepsV V (graphV V).1 l).length
  rw [steps_len]
  exact List.length_pos_iff.2 h2
theorem path_short {V : List ViewE} {id : IDE} (hf : FewV V) : (pathV V id).1.length ≤ 1000 := by
  by_cases hn : (pathV V id).1 = []
  · rw [hn]; simp
  obtain ⟨hg, l, hl⟩ := pathV_inv (V := V) (id := id) (.inl hn)
  rw [(pathV_some hg hl).1]
  show (stepsV V (graphV V).1 l).length ≤ 1000
  rw [steps_len]
  exact Nat.le_trans (paths_len hl) (graph_len hf)
end Go.Proofs.YtpkfenlfgdbkcaaGreatDoor

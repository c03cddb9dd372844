/-
  Contracts of the functions of this seat that each theorem names: what a call returns, and that it writes nothing that was there before. The conditions stand in each theorem.
-/
import Derived.Test.YtjegncmkebbdfaaGreatDoorF16Union
import Derived.Test.YtjegncmkebbdfaaGreatDoorF16Few
import Derived.Test.YtjegncmkebbdfaaGreatDoorGrpB
set_option linter.unusedSimpArgs false
set_option linter.unusedVariables false
namespace Go.Proofs.YtjegncmkebbdfaaGreatDoor
section
variable {κ α : Type} [DecidableEq κ] {kf : α → κ}
theorem findK_some {l : List α} {k : κ} {x : α} (h : findK kf l k = some x) : x ∈ l ∧ kf x = k := by
  unfold findK at h
  exact ⟨List.mem_of_find?_eq_some h, by simpa using List.find?_some h⟩
theorem findK_no {l : List α} {k : κ} (h : findK kf l k = none) : ∀ x ∈ l, kf x ≠ k := by
  unfold findK at h
  intro x hx
  simpa using List.find?_eq_none.1 h x hx
theorem findK_setAll {v : α} {k : κ} : ∀ (l : List α), findK kf (l.map fun x => if kf x = kf v then v else x) k = if k = kf v then (if (l.any fun x => decide (kf x = kf v)) then some v else none) else findK kf l k
  | [] => by simp [findK]
  | x :: l => by
    have ih := findK_setAll (v := v) (k := k) l
    unfold findK at ih ⊢
    rw [List.map_cons, List.find?_cons, List.find?_cons, List.any_cons, ih]
    by_cases hk : k = kf v
    · subst hk
      by_cases hx : kf x = kf v
      · simp [hx]
      · simp [hx]
    · by_cases hx : kf x = kf v
      · simp [hx, hk, Ne.symm hk]
      · simp [hx, hk]
theorem findK_put {l : List α} {v : α} {k : κ} : findK kf (putK kf l v) k = if k = kf v then some v else findK kf l k := by
  unfold putK
  split
  · next h => rw [findK_setAll, h]; simp
  · next h =>
    have hno : ∀ x ∈ l, kf x ≠ kf v := by simpa using h
    unfold findK
    rw [List.find?_append]
    by_cases hk : k = kf v
    · subst hk
      rw [List.find?_eq_none.2 (by simpa using hno)]
      simp
    · simp [hk, Ne.symm hk]
theorem putK_mem {l : List α} {v x : α} (h : x ∈ putK kf l v) : x = v ∨ x ∈ l := by
  unfold putK at h
  split at h
  · obtain ⟨y, hy, rfl⟩ := List.mem_map.1 h
    split
    · exact .inl rfl
    · exact .inr hy
  · rcases List.mem_append.1 h with h | h
    · exact .inr h
    · exact .inl (List.mem_singleton.1 h)
theorem putK_len {l : List α} {v : α} : (putK kf l v).length ≤ l.length + 1 := by
  unfold putK
  split <;> simp
end
/-- The map's nodes are those of the sorted list. -/
def RelU (l : List NodeE) (q : List NodeC) : Prop := SortedN q ∧ ∀ x, (findK NodeE.id l x).map NodeE.con = firstN q x
theorem con_id (n : NodeE) : n.con.id = n.id := rfl
theorem relU_nil : RelU [] [] := ⟨nil_sorted, fun x => rfl⟩
theorem relU_put {l : List NodeE} {q q' : List NodeC} {n : NodeE} (h : RelU l q) (hs : SortedN q') (hq : ∀ x, firstN q' x = if x = n.id then some n.con else firstN q x) : RelU (putK NodeE.id l n) q' := ⟨hs, fun x => by
  rw [findK_put, hq]
  split
  · rfl
  · exact h.2 x⟩
theorem relU_keep {l : List NodeE} {q q' : List NodeC} {m : NodeE} {x0 : IDE} (h : RelU l q) (hm : findK NodeE.id l x0 = some m) (hs : SortedN q') (hq : ∀ x, firstN q' x = if x = x0 then some m.con else firstN q x) : RelU l q' := ⟨hs, fun x => by
  rw [hq]
  split
  · next e => rw [e, hm]; rfl
  · exact h.2 x⟩
structure InvU (gs : List GrE) (pre : List NodeC) (l : List NodeE) (q : List NodeC) : Prop where
  p : putAll [] pre = some q
  r : RelU l q
  n : l.length ≤ pre.length
  m : ∀ x ∈ l, ∃ g ∈ gs, x ∈ g.l
theorem putAll_snoc {pre q : List NodeC} {n : NodeC} (h : putAll [] pre = some q) : putAll [] (pre ++ [n]) = putN q n := by
  rw [putAll_app, h]
  show putAll q [n] = _
  unfold putAll
  cases putN q n with
  | none => rfl
  | some q' => rfl
theorem invU_put {gs : List GrE} {pre q q' : List NodeC} {l : List NodeE} {n : NodeE} {g : GrE} (h : InvU gs pre l q) (hg : g ∈ gs) (hn : n ∈ g.l) (hp : putN q n.con = some q') (hs : SortedN q') (hq : ∀ x, firstN q' x = if x = n.id then some n.con else firstN q x) :
    InvU gs (pre ++ [n.con]) (putK NodeE.id l n) q' :=
  ⟨by rw [putAll_snoc h.p, hp], relU_put h.r hs hq, by have h1 := h.n; have h2 := putK_len (kf := NodeE.id) (l := l) (v := n); rw [List.length_append, List.length_singleton]; omega, fun x hx => by
    rcases putK_mem hx with rfl | hx
    · exact ⟨g, hg, hn⟩
    · exact h.m x hx⟩
theorem invU_new {gs : List GrE} {pre : List NodeC} {l : List NodeE} {n : NodeE} {g : GrE} (h : ∃ q, InvU gs pre l q) (hg : g ∈ gs) (hn : n ∈ g.l) (hf : findK NodeE.id l n.id = none) : ∃ q, InvU gs (pre ++ [n.con]) (putK NodeE.id l n) q := by
  obtain ⟨q, h⟩ := h
  have hs := putN_spec h.r.1 n.con
  have e := h.r.2 n.id
  rw [hf] at e
  rw [con_id, ← e] at hs
  obtain ⟨q', h1, h2, -, h3⟩ := hs
  exact ⟨q', invU_put h hg hn h1 h2 h3⟩
theorem invU_some {gs : List GrE} {pre q : List NodeC} {l : List NodeE} {n m : NodeE} (h : InvU gs pre l q) (hf : findK NodeE.id l n.id = some m) :
    (mergeN m.con n.con = none → putN q n.con = none) ∧ ∀ x, mergeN m.con n.con = some x → ∃ q', putN q n.con = some q' ∧ SortedN q' ∧ ∀ y, firstN q' y = if y = n.id then some x else firstN q y := by
  have hs := putN_spec h.r.1 n.con
  have e := h.r.2 n.id
  rw [hf] at e
  rw [con_id, ← e] at hs
  refine ⟨hs.1, fun x hx => ?_⟩
  obtain ⟨q', h1, h2, -, h3⟩ := hs.2 x hx
  exact ⟨q', h1, h2, h3⟩
theorem invU_over {gs : List GrE} {pre : List NodeC} {l : List NodeE} {n m : NodeE} {g : GrE} (h : ∃ q, InvU gs pre l q) (hg : g ∈ gs) (hn : n ∈ g.l) (hf : findK NodeE.id l n.id = some m) (hm : mergeN m.con n.con = some n.con) : ∃ q, InvU gs (pre ++ [n.con]) (putK NodeE.id l n) q := by
  obtain ⟨q, h⟩ := h
  obtain ⟨q', h1, h2, h3⟩ := (invU_some h hf).2 _ hm
  exact ⟨q', invU_put h hg hn h1 h2 h3⟩
theorem invU_keep {gs : List GrE} {pre : List NodeC} {l : List NodeE} {n m : NodeE} (h : ∃ q, InvU gs pre l q) (hf : findK NodeE.id l n.id = some m) (hm : mergeN m.con n.con = some m.con) : ∃ q, InvU gs (pre ++ [n.con]) l q := by
  obtain ⟨q, h⟩ := h
  obtain ⟨q', h1, h2, h3⟩ := (invU_some h hf).2 _ hm
  exact ⟨q', by rw [putAll_snoc h.p, h1], relU_keep h.r hf h2 h3, by have := h.n; rw [List.length_append]; omega, h.m⟩
theorem invU_fail {gs : List GrE} {pre post : List NodeC} {l : List NodeE} {n m : NodeE} (h : ∃ q, InvU gs pre l q) (hf : findK NodeE.id l n.id = some m) (hm : mergeN m.con n.con = none) : putAll [] (pre ++ n.con :: post) = none := by
  obtain ⟨q, h⟩ := h
  have h1 := (invU_some h hf).1 hm
  rw [putAll_app, h.p]
  show putAll q (n.con :: post) = none
  unfold putAll
  rw [h1]
theorem merge_keep {a b : NodeC} (hk : ¬ (a.kind = 3 ↔ b.kind = 3)) (hc : a.clas = b.clas) (h3 : a.kind ≠ 3) : mergeN a b = some a := by
  unfold mergeN; rw [if_neg hk, if_pos hc, if_neg h3]
theorem merge_over {a b : NodeC} (hk : ¬ (a.kind = 3 ↔ b.kind = 3)) (hc : a.clas = b.clas) (h3 : a.kind = 3) : mergeN a b = some b := by
  unfold mergeN; rw [if_neg hk, if_pos hc, if_pos h3]
theorem merge_clas {a b : NodeC} (hk : ¬ (a.kind = 3 ↔ b.kind = 3)) (hc : a.clas ≠ b.clas) : mergeN a b = none := by
  unfold mergeN; rw [if_neg hk, if_neg hc]
theorem merge_same {a b : NodeC} (hk : a.kind = 3 ↔ b.kind = 3) (h : a = b) : mergeN a b = some a := by
  unfold mergeN; rw [if_pos hk, if_pos h]
theorem merge_diff {a b : NodeC} (hk : a.kind = 3 ↔ b.kind = 3) (h : a ≠ b) : mergeN a b = none := by
  unfold mergeN; rw [if_pos hk, if_neg h]
/-- A sorted list of the map's nodes is the sorted list. -/
theorem relU_sorted {l : List NodeE} {q o : List NodeC} (h : RelU l q) (hn : (l.map NodeE.id).Nodup) (hp : o.Perm (l.map NodeE.con)) (hs : SortedN o) : o = q := by
  refine sortedN_unique hs h.1 fun x => ?_
  rw [← h.2 x]
  cases hf : findK NodeE.id l x with
  | none =>
    refine firstN_none.2 fun a ha => ?_
    obtain ⟨m, hm, rfl⟩ := List.mem_map.1 (hp.subset ha)
    exact findK_no hf m hm
  | some m =>
    obtain ⟨h1, h2⟩ := findK_some hf
    have := firstN_mem hs (hp.symm.subset (List.mem_map.2 ⟨m, h1, rfl⟩))
    rw [con_id, h2] at this
    exact this
end Go.Proofs.YtjegncmkebbdfaaGreatDoor

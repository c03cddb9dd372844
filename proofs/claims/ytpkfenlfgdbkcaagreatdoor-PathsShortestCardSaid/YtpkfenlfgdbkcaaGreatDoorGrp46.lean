/-
  Small texts of this seat, put into one. Conditions stand in each theorem.
-/
import Derived.Test.YtpkfenlfgdbkcaaGreatDoorGrp42
import Derived.Test.YtpkfenlfgdbkcaaGreatDoorP59R7
set_option linter.unusedSimpArgs false
set_option linter.unusedVariables false
namespace Go.Proofs.YtpkfenlfgdbkcaaGreatDoor
/-- a comes ahead of b at the first place where they differ. -/
def lexI : List IDE → List IDE → Prop
  | a :: s, b :: t => ltI a b ∨ (a = b ∧ lexI s t)
  | _, _ => False
theorem lexI_append {s t : List IDE} : ∀ {a b : List IDE}, lexI a b → lexI (a ++ s) (b ++ t)
  | [], _, h => h.elim
  | _ :: _, [], h => h.elim
  | x :: a, y :: b, h => by
    rcases h with h | ⟨h1, h2⟩
    · exact .inl h
    · exact .inr ⟨h1, lexI_append (a := a) (b := b) h2⟩
theorem lexI_snoc {x y : IDE} (h : ltI x y) : ∀ {p : List IDE}, lexI (p ++ [x]) (p ++ [y])
  | [] => .inl h
  | _ :: p => .inr ⟨rfl, lexI_snoc h (p := p)⟩
theorem lexI_irrefl : ∀ {a : List IDE}, ¬ lexI a a
  | [], h => h
  | x :: a, h => by
    rcases h with h | ⟨-, h⟩
    · exact ltI_irrefl x h
    · exact lexI_irrefl (a := a) h
theorem lexI_asymm : ∀ {a b : List IDE}, lexI a b → ¬ lexI b a
  | [], _, h, _ => h
  | _ :: _, [], h, _ => h
  | x :: a, y :: b, h, k => by
    rcases h with h | ⟨h1, h2⟩
    · rcases k with k | ⟨k1, -⟩
      · exact ltI_irrefl x (ltI_trans h k)
      · rw [k1] at h; exact ltI_irrefl x h
    · rcases k with k | ⟨-, k2⟩
      · rw [h1] at k; exact ltI_irrefl y k
      · exact lexI_asymm (a := a) (b := b) h2 k2
/-- The order in which the search leaves nodes of one level. -/
structure Lex1 (st : PathM × List IDE) : Prop where
  o : ∀ (i j : Nat) (x y : IDE) (l m : List IDE), i < j → st.2[i]? = some x → st.2[j]? = some y → st.1 x = some l → st.1 y = some m → l.length = m.length → lexI l m
def Bnd (st : PathM × List IDE) (p : List IDE) (y : IDE) : Prop := ∀ z l, st.1 z = some l → l.length = p.length + 1 → lexI l (p ++ [y])
theorem Lex1.visit {G : List NodeC} {p : List IDE} {st : PathM × List IDE} {y : IDE} (h : Lex1 st) (ho : BfsOk G st) (hb : Bnd st p y) : Lex1 (visitT G p st y) := by
  rcases visitT_cases G p st y with ⟨e, -⟩ | ⟨h1, h2, e⟩
  · rw [e]; exact h
  rw [e]
  have hT : ∀ z l, mupd st.1 y (p ++ [y]) z = some l → (z = y ∧ l = p ++ [y]) ∨ (z ≠ y ∧ st.1 z = some l) := fun z l hz => by
    unfold mupd at hz
    split at hz
    · rename_i hzy
      injection hz with hz
      exact .inl ⟨hzy, hz.symm⟩
    · rename_i hzy
      exact .inr ⟨hzy, hz⟩
  refine ⟨fun i j a b l m hij ha hbb hl hm hlen => ?_⟩
  simp only at ha hbb hl hm
  have hmem : ∀ z, z ∈ st.2 → z ≠ y := fun z hz e => by
    have := (ho.mem z).1 hz
    rw [e, h2] at this; cases this
  have hi : i < st.2.length := by
    have := (List.getElem?_eq_some_iff.1 hbb).1
    rw [List.length_append, List.length_singleton] at this
    omega
  rw [List.getElem?_append_left hi] at ha
  have hay := hmem a (List.mem_of_getElem? ha)
  rcases hT a l hl with ⟨h3, -⟩ | ⟨-, h3⟩
  · exact absurd h3 hay
  rcases hT b m hm with ⟨-, h4⟩ | ⟨h4, h5⟩
  · rw [h4] at hlen ⊢
    exact hb a l h3 (by rw [hlen, List.length_append, List.length_singleton])
  · have hj : j < st.2.length := by
      rcases Nat.lt_or_ge j st.2.length with hj | hj
      · exact hj
      · rw [List.getElem?_append_right hj] at hbb
        cases hjj : j - st.2.length with
        | zero => rw [hjj] at hbb; simp at hbb; exact absurd hbb.symm h4
        | succ q => rw [hjj] at hbb; simp at hbb
    rw [List.getElem?_append_left hj] at hbb
    exact h.o i j a b l m hij ha hbb h3 h5 hlen
theorem Bnd.visit {G : List NodeC} {p : List IDE} {st : PathM × List IDE} {y z : IDE} (h : Bnd st p z) (hyz : ltI y z) : Bnd (visitT G p st y) p z := by
  rcases visitT_cases G p st y with ⟨e, -⟩ | ⟨h1, h2, e⟩
  · rw [e]; exact h
  rw [e]
  intro a l ha hl
  simp only at ha
  unfold mupd at ha
  split at ha
  · injection ha with ha
    rw [← ha]
    exact lexI_snoc hyz
  · exact h a l ha hl
theorem Lex1.fold {G : List NodeC} {p : List IDE} : ∀ {ys : List IDE} {st : PathM × List IDE}, SortedI ys → Lex1 st → BfsOk G st → (∀ y ∈ ys, Bnd st p y) → Lex1 (ys.foldl (visitT G p) st)
  | [], _, _, h, _, _ => h
  | y :: ys, st, hs, h, ho, hb => by
    obtain ⟨hs1, hs2⟩ := List.pairwise_cons.1 hs
    exact Lex1.fold (ys := ys) hs2 (h.visit ho (hb y List.mem_cons_self)) ho.visit fun z hz => (hb z (List.mem_cons_of_mem _ hz)).visit (hs1 z hz)
/-- Whence a path comes: a node that was left ahead of n. -/
def Par (n : Nat) (st : PathM × List IDE) : Prop := ∀ z l, st.1 z = some l → l = [z] ∨ ∃ (k : Nat) (f : IDE) (q : List IDE), k < n ∧ st.2[k]? = some f ∧ st.1 f = some q ∧ l = q ++ [z]
theorem Par.visit {G : List NodeC} {p : List IDE} {n k : Nat} {st : PathM × List IDE} {x y : IDE} (h : Par n st) (hk : k < n) (hx : st.2[k]? = some x) (hp : st.1 x = some p) : Par n (visitT G p st y) := by
  have hm := mono_visit (G := G) (p := p) (st := st) (y := y)
  have hold : ∀ {i : Nat} {f : IDE}, st.2[i]? = some f → (visitT G p st y).2[i]? = some f := fun {i f} hf => by
    obtain ⟨e, he⟩ := hm.o
    rw [he, List.getElem?_append_left (List.getElem?_eq_some_iff.1 hf).1]
    exact hf
  intro z l hz
  rcases visitT_cases G p st y with ⟨e, -⟩ | ⟨h1, h2, e⟩
  · rw [e] at hz ⊢; exact h z l hz
  have hz2 := hz
  rw [e] at hz2
  simp only at hz2
  unfold mupd at hz2
  split at hz2
  · rename_i hzy
    injection hz2 with hz2
    exact .inr ⟨k, x, p, hk, hold hx, hm.p x p hp, by rw [← hz2, hzy]⟩
  · rcases h z l hz2 with h3 | ⟨k', f, q, h3, h4, h5, h6⟩
    · exact .inl h3
    · exact .inr ⟨k', f, q, h3, hold h4, hm.p f q h5, h6⟩
theorem Par.fold {G : List NodeC} {p : List IDE} {n k : Nat} {x : IDE} (hk : k < n) : ∀ {ys : List IDE} {st : PathM × List IDE}, Par n st → st.2[k]? = some x → st.1 x = some p → Par n (ys.foldl (visitT G p) st)
  | [], _, h, _, _ => h
  | y :: ys, st, h, hx, hp => by
    have hm := mono_visit (G := G) (p := p) (st := st) (y := y)
    refine Par.fold hk (ys := ys) (h.visit hk hx hp) ?_ (hm.p x p hp)
    obtain ⟨e, he⟩ := hm.o
    rw [he, List.getElem?_append_left (List.getElem?_eq_some_iff.1 hx).1]
    exact hx
theorem par_start {G : List NodeC} : ∀ {ys : List IDE} {st : PathM × List IDE}, Par 0 st → Par 0 (ys.foldl (visitT G []) st)
  | [], _, h => h
  | y :: ys, st, h => by
    refine par_start (ys := ys) fun z l hz => ?_
    rcases visitT_cases G [] st y with ⟨e, -⟩ | ⟨h1, h2, e⟩
    · rw [e] at hz ⊢; exact h z l hz
    · rw [e] at hz
      simp only at hz
      unfold mupd at hz
      split at hz
      · rename_i hzy
        injection hz with hz
        exact .inl (by rw [← hz, hzy]; rfl)
      · rcases h z l hz with h3 | ⟨k', f, q, h3, -⟩
        · exact .inl h3
        · omega
theorem bfs_lex (G : List NodeC) (R : List IDE) : ∀ n, Lex1 (bfsT G R n) ∧ Par n (bfsT G R n)
  | 0 => ⟨Lex1.fold (p := []) (setI_sorted R) ⟨fun _ _ _ _ _ _ _ h => (by cases h)⟩ ⟨List.nodup_nil, fun y => by simp, fun y hy => by cases hy⟩ (fun _ _ _ _ h => by cases h), par_start fun _ _ h => by cases h⟩
  | n + 1 => by
    obtain ⟨h1, h2⟩ := bfs_lex G R n
    cases hx : (bfsT G R n).2[n]? with
    | none =>
      have he : bfsT G R (n + 1) = bfsT G R n := by conv => lhs; unfold bfsT; rw [hx]
      rw [he]
      refine ⟨h1, fun z l hz => ?_⟩
      rcases h2 z l hz with h3 | ⟨k, f, q, h3, h4⟩
      · exact .inl h3
      · exact .inr ⟨k, f, q, by omega, h4⟩
    | some x =>
      obtain ⟨p, hp⟩ := path_some (List.mem_of_getElem? hx)
      have he : bfsT G R (n + 1) = (succI G x).foldl (visitT G p) (bfsT G R n) := by rw [bfs_next hx]; unfold nextsT; rw [hp]; rfl
      have hp0 : p ≠ [] := by
        obtain ⟨p', hp', -⟩ := bfs_path G R n x p hp
        rw [hp']; simp
      rw [he]
      refine ⟨Lex1.fold (setI_sorted _) h1 (bfs_ok G R n) fun y _ z l hz hl => ?_, Par.fold (Nat.lt_succ_self n) (fun z l hz => ?_) hx hp⟩
      · rcases h2 z l hz with h3 | ⟨k, f, q, h3, h4, h5, h6⟩
        · rw [h3] at hl
          exact absurd (List.eq_nil_iff_length_eq_zero.2 (by simpa using hl.symm)) hp0
        · rw [h6]
          refine lexI_append (h1.o k n f x q p h3 h4 hx h5 hp ?_)
          rw [h6, List.length_append, List.length_singleton] at hl
          omega
      · rcases h2 z l hz with h3 | ⟨k, f, q, h3, h4⟩
        · exact .inl h3
        · exact .inr ⟨k, f, q, by omega, h4⟩
/-- A path is no later than what leads through another node of the level ahead. -/
theorem path_least {G : List NodeC} {R : List IDE} {x y : IDE} {l m : List IDE} (hx : pathsT G R x = some l) (hm : y ∈ succI G x) (hy : pathsT G R y = some m) (hlen : m.length = l.length + 1) : m = l ++ [y] ∨ lexI m (l ++ [y]) := by
  have hmem : x ∈ (bfsT G R G.length).2 := ((bfs_ok G R G.length).mem x).2 (by show (pathsT G R x).isSome = true; rw [hx]; rfl)
  obtain ⟨k, hk⟩ := List.getElem?_of_mem hmem
  have hkl := (List.getElem?_eq_some_iff.1 hk).1
  have hlenG := (bfs_ok G R G.length).len
  have hkG : k < G.length := by omega
  have hin : (bfsT G R k).2[k]? = some x := by
    obtain ⟨e, he⟩ := (bfs_mono (G := G) (R := R) (Nat.le_of_lt hkG)).o
    rcases Nat.lt_or_ge k (bfsT G R k).2.length with h | h
    · rw [he, List.getElem?_append_left h] at hk; exact hk
    · have hs := bfs_stop (G := G) (R := R) (n := k) h (G.length - k)
      rw [Nat.add_sub_cancel' (Nat.le_of_lt hkG)] at hs
      rw [hs] at hkl
      omega
  have hfy : (firstN G y).isSome = true := by
    obtain ⟨p, -, hp2, -⟩ := bfs_path G R G.length y m hy
    exact hp2
  have h5 : ((bfsT G R (k + 1)).1 y).isSome = true := bfs_closed (Nat.lt_succ_self k) hin hm hfy
  obtain ⟨m', hm'⟩ := Option.isSome_iff_exists.1 h5
  have hmm : m' = m := by
    have := (bfs_mono (G := G) (R := R) hkG).p y m' hm'
    have h6 : pathsT G R y = some m' := this
    rw [hy] at h6
    injection h6 with h6
    exact h6.symm
  subst hmm
  obtain ⟨hL, hP⟩ := bfs_lex G R (k + 1)
  have hin1 := bfs_old (Nat.le_succ k) hin
  have hxk : (bfsT G R (k + 1)).1 x = some l := by
    have h1 : (bfsT G R k).1 x = some l := by rw [paths_at hin, hx]
    exact (bfs_mono (Nat.le_succ k)).p x l h1
  have hl0 : l ≠ [] := by
    obtain ⟨p', hp', -⟩ := bfs_path G R G.length x l hx
    rw [hp']; simp
  rcases hP y m' hm' with h | ⟨j, f, q, h1, h2, h3, h4⟩
  · rw [h] at hlen
    exact absurd (List.eq_nil_iff_length_eq_zero.2 (by simpa using hlen.symm)) hl0
  rcases Nat.lt_or_ge j k with hjk | hjk
  · right
    rw [h4]
    refine lexI_append (hL.o j k f x q l hjk h2 hin1 h3 hxk ?_)
    rw [h4, List.length_append, List.length_singleton] at hlen
    omega
  · left
    have hjk' : j = k := by omega
    subst hjk'
    rw [hin1] at h2
    injection h2 with h2
    subst h2
    rw [hxk] at h3
    injection h3 with h3
    rw [h4, h3]
end Go.Proofs.YtpkfenlfgdbkcaaGreatDoor

namespace Go.Proofs.YtpkfenlfgdbkcaaGreatDoor
theorem lexI_total : ∀ {a b : List IDE}, a.length = b.length → lexI a b ∨ a = b ∨ lexI b a
  | [], [], _ => .inr (.inl rfl)
  | [], _ :: _, h => by simp at h
  | _ :: _, [], h => by simp at h
  | x :: a, y :: b, h => by
    rcases ltI_total x y with h1 | h1 | h1
    · exact .inl (.inl h1)
    · rcases lexI_total (a := a) (b := b) (by simpa using h) with h2 | h2 | h2
      · exact .inl (.inr ⟨h1, h2⟩)
      · exact .inr (.inl (by rw [h1, h2]))
      · exact .inr (.inr (.inr ⟨h1.symm, h2⟩))
    · exact .inr (.inr (.inl h1))
theorem lexI_trans : ∀ {a b c : List IDE}, lexI a b → lexI b c → lexI a c
  | [], _, _, h, _ => h.elim
  | _ :: _, [], _, h, _ => h.elim
  | _ :: _, _ :: _, [], _, h => h.elim
  | x :: a, y :: b, z :: c, h, k => by
    rcases h with h | ⟨h1, h2⟩
    · rcases k with k | ⟨k1, -⟩
      · exact .inl (ltI_trans h k)
      · exact .inl (by rw [← k1]; exact h)
    · rcases k with k | ⟨k1, k2⟩
      · exact .inl (by rw [h1]; exact k)
      · exact .inr ⟨h1.trans k1, lexI_trans h2 k2⟩
/-- The reference's less. -/
def lessB : List IDE → List IDE → Bool
  | a :: s, b :: t => if a = b then lessB s t else decide (ltI a b)
  | _, _ => false
theorem lessB_iff : ∀ {a b : List IDE}, lessB a b = true ↔ lexI a b
  | [], [] => by simp [lessB, lexI]
  | [], _ :: _ => by simp [lessB, lexI]
  | _ :: _, [] => by simp [lessB, lexI]
  | x :: a, y :: b => by
    unfold lessB lexI
    by_cases h : x = y
    · rw [if_pos h, lessB_iff (a := a) (b := b)]
      constructor
      · exact fun k => .inr ⟨h, k⟩
      · rintro (k | ⟨-, k⟩)
        · rw [h] at k; exact absurd k (ltI_irrefl y)
        · exact k
    · rw [if_neg h]
      constructor
      · exact fun k => .inl (of_decide_eq_true k)
      · rintro (k | ⟨k, -⟩)
        · exact decide_eq_true k
        · exact absurd k h
def idAt (G : List NodeC) (j : Nat) : IDE := (G.getD j zeroC).id
def candB (G : List NodeC) (P : List (List IDE)) (n i j : Nat) : Bool := decide ((P.getD i []).length = n) && (decide ((P.getD j []).length = 0) && decide (0 ≤ rFieldN (G.getD i zeroC) (idAt G j)))
/-- What stands at j in the next list, when the nodes ahead of i have been passed. -/
def bestK (G : List NodeC) (P : List (List IDE)) (n j : Nat) : Nat → List IDE
  | 0 => P.getD j []
  | i + 1 => if candB G P n i j && (decide ((bestK G P n j i).length = 0) || lessB (P.getD i [] ++ [idAt G j]) (bestK G P n j i)) then P.getD i [] ++ [idAt G j] else bestK G P n j i
def leastInit (G : List NodeC) (R : List IDE) : List (List IDE) := G.map fun n => if n.id ∈ R then [n.id] else []
def leastNext (G : List NodeC) (P : List (List IDE)) (n : Nat) : List (List IDE) := (List.range G.length).map fun j => bestK G P n j G.length
/-- The lists when n rounds have been made. -/
def leastP (G : List NodeC) (R : List IDE) : Nat → List (List IDE)
  | 0 => leastInit G R
  | n + 1 => leastNext G (leastP G R n) (n + 1)
/-- The path of the node at j, where it has at most n nodes. -/
def truncP (G : List NodeC) (R : List IDE) (n j : Nat) : List IDE := match pathsT G R (idAt G j) with | some l => if l.length ≤ n then l else [] | none => []
theorem path_pos' {G : List NodeC} {R : List IDE} {y : IDE} {l : List IDE} (h : pathsT G R y = some l) : 0 < l.length := by
  obtain ⟨p, hp, -⟩ := bfs_path G R G.length y l h
  rw [hp, List.length_append, List.length_singleton]; omega
theorem root_path {G : List NodeC} {R : List IDE} {y : IDE} (hm : y ∈ R) (hy : (firstN G y).isSome = true) : pathsT G R y = some [y] := by
  obtain ⟨l, hl⟩ := Option.isSome_iff_exists.1 (show ((bfsT G R 0).1 y).isSome = true from fold_in (setI_mem.2 hm) hy)
  rcases (bfs_lex G R 0).2 y l hl with h | ⟨k, -, -, h, -⟩
  · rw [← h]; exact (bfs_mono (Nat.zero_le _)).p y l hl
  · omega
section
variable {V : List ViewE} {R : List IDE}
theorem at_mem {j : Nat} (hj : j < (graphV V).1.length) : (graphV V).1.getD j zeroC ∈ (graphV V).1 := by
  rw [List.getD_eq_getElem?_getD, List.getElem?_eq_getElem hj]
  exact List.getElem_mem hj
theorem at_first {j : Nat} (hj : j < (graphV V).1.length) : firstN (graphV V).1 (idAt (graphV V).1 j) = some ((graphV V).1.getD j zeroC) := graph_first (at_mem hj)
theorem at_index {x : IDE} (h : (firstN (graphV V).1 x).isSome = true) : ∃ i, i < (graphV V).1.length ∧ idAt (graphV V).1 i = x := by
  obtain ⟨n, hn⟩ := Option.isSome_iff_exists.1 h
  obtain ⟨h1, h2⟩ := firstN_some hn
  obtain ⟨i, hi⟩ := List.getElem?_of_mem h1
  refine ⟨i, (List.getElem?_eq_some_iff.1 hi).1, ?_⟩
  unfold idAt
  rw [List.getD_eq_getElem?_getD, hi]
  exact h2
theorem init_law {j : Nat} (hj : j < (graphV V).1.length) : (leastInit (graphV V).1 R).getD j [] = truncP (graphV V).1 R 1 j := by
  have h1 : (leastInit (graphV V).1 R).getD j [] = if idAt (graphV V).1 j ∈ R then [idAt (graphV V).1 j] else [] := by
    unfold leastInit idAt
    rw [List.getD_eq_getElem?_getD, List.getElem?_map, List.getD_eq_getElem?_getD, List.getElem?_eq_getElem hj]
    rfl
  rw [h1]
  unfold truncP
  by_cases hm : idAt (graphV V).1 j ∈ R
  · rw [if_pos hm, root_path hm (by rw [at_first hj]; rfl)]
    simp
  · rw [if_neg hm]
    cases hp : pathsT (graphV V).1 R (idAt (graphV V).1 j) with
    | none => rfl
    | some l =>
      show [] = if l.length ≤ 1 then l else []
      split
      · rename_i hl
        have h2 := path_pos' hp
        obtain ⟨p, hp1, -⟩ := bfs_path (graphV V).1 R (graphV V).1.length _ l hp
        have h3 : p = [] := by
          rw [hp1, List.length_append, List.length_singleton] at hl
          exact List.eq_nil_iff_length_eq_zero.2 (by omega)
        exact absurd (path_first hp (by rw [hp1, h3]; rfl)) hm
      · rfl
/-- What a candidate is. -/
theorem cand_law {P : List (List IDE)} {n i j : Nat} (hn : 0 < n) (hi : i < (graphV V).1.length) (hj : j < (graphV V).1.length) (hP : ∀ j, j < (graphV V).1.length → P.getD j [] = truncP (graphV V).1 R n j) (h : candB (graphV V).1 P n i j = true) :
    pathsT (graphV V).1 R (idAt (graphV V).1 i) = some (P.getD i []) ∧ (P.getD i []).length = n ∧ idAt (graphV V).1 j ∈ succI (graphV V).1 (idAt (graphV V).1 i) := by
  unfold candB at h
  simp only [Bool.and_eq_true] at h
  have h1 := of_decide_eq_true h.1
  have h3 := of_decide_eq_true h.2.2
  refine ⟨?_, h1, ?_⟩
  · have h4 := hP i hi
    rw [h4] at h1 ⊢
    unfold truncP at h1 ⊢
    cases hp : pathsT (graphV V).1 R (idAt (graphV V).1 i) with
    | none => rw [hp] at h1; simp at h1; omega
    | some l =>
      rw [hp] at h1
      simp only at h1 ⊢
      split at h1
      · rename_i hl
        rw [if_pos hl]
      · simp at h1; omega
  · rw [rfield_eq (at_mem hi)] at h3
    exact (succ_of (at_first hi)).2 ((holds_iff (at_mem hi)).1 h3)
theorem best_law {P : List (List IDE)} {n j : Nat} (hn : 0 < n) (hj : j < (graphV V).1.length) (hP : ∀ j, j < (graphV V).1.length → P.getD j [] = truncP (graphV V).1 R n j) : bestK (graphV V).1 P n j (graphV V).1.length = truncP (graphV V).1 R (n + 1) j := by
  by_cases hA : (P.getD j []).length = 0
  rotate_left
  · have hno : ∀ i, bestK (graphV V).1 P n j i = P.getD j [] := by
      intro i
      induction i with
      | zero => rfl
      | succ i ih =>
        unfold bestK
        rw [if_neg, ih]
        unfold candB
        rw [decide_eq_false hA]
        simp
    rw [hno, hP j hj]
    rw [hP j hj] at hA
    unfold truncP at hA ⊢
    cases hp : pathsT (graphV V).1 R (idAt (graphV V).1 j) with
    | none => rw [hp] at hA; first | done | exact absurd rfl hA
    | some l =>
      rw [hp] at hA
      simp only at hA ⊢
      split at hA
      · rename_i hl
        rw [if_pos hl, if_pos (by omega)]
      · exact absurd rfl hA
  have hfy : (firstN (graphV V).1 (idAt (graphV V).1 j)).isSome = true := by rw [at_first hj]; rfl
  -- the candidates' invariant
  have hinv : ∀ i, i ≤ (graphV V).1.length → ((∀ k, k < i → candB (graphV V).1 P n k j = false) ∧ bestK (graphV V).1 P n j i = []) ∨
      ((∃ k, k < i ∧ candB (graphV V).1 P n k j = true ∧ bestK (graphV V).1 P n j i = P.getD k [] ++ [idAt (graphV V).1 j]) ∧ ∀ k, k < i → candB (graphV V).1 P n k j = true → bestK (graphV V).1 P n j i = P.getD k [] ++ [idAt (graphV V).1 j] ∨ lexI (bestK (graphV V).1 P n j i) (P.getD k [] ++ [idAt (graphV V).1 j])) := by
    intro i
    induction i with
    | zero => exact fun _ => .inl ⟨fun k hk => absurd hk (by omega), List.eq_nil_iff_length_eq_zero.2 hA⟩
    | succ i ih =>
      intro hi
      have ih := ih (by omega)
      have hstep : bestK (graphV V).1 P n j (i + 1) = if candB (graphV V).1 P n i j && (decide ((bestK (graphV V).1 P n j i).length = 0) || lessB (P.getD i [] ++ [idAt (graphV V).1 j]) (bestK (graphV V).1 P n j i)) then P.getD i [] ++ [idAt (graphV V).1 j] else bestK (graphV V).1 P n j i := by
        conv => lhs; unfold bestK
      generalize bestK (graphV V).1 P n j (i + 1) = b' at hstep
      generalize bestK (graphV V).1 P n j i = b at hstep ih
      cases hc : candB (graphV V).1 P n i j
      · rw [hc, Bool.false_and, if_neg (by simp)] at hstep
        subst hstep
        rcases ih with ⟨h1, h2⟩ | ⟨⟨k, h1, h2, h3⟩, h4⟩
        · refine .inl ⟨fun k hk => ?_, h2⟩
          rcases Nat.lt_or_ge k i with h | h
          · exact h1 k h
          · rw [show k = i by omega]; exact hc
        · refine .inr ⟨⟨k, by omega, h2, h3⟩, fun q hq hcq => ?_⟩
          rcases Nat.lt_or_ge q i with h | h
          · exact h4 q h hcq
          · rw [show q = i by omega, hc] at hcq; cases hcq
      · rw [hc, Bool.true_and] at hstep
        obtain ⟨-, hli, -⟩ := cand_law hn (by omega) hj hP hc
        rcases ih with ⟨h1, h2⟩ | ⟨⟨k, h1, h2, h3⟩, h4⟩
        · rw [h2, if_pos (by simp)] at hstep
          refine .inr ⟨⟨i, by omega, hc, hstep⟩, fun q hq hcq => ?_⟩
          rcases Nat.lt_or_ge q i with h | h
          · rw [h1 q h] at hcq; cases hcq
          · rw [show q = i by omega]; exact .inl hstep
        · have hlk := (cand_law hn (by omega) hj hP h2).2.1
          have hbl : b.length = n + 1 := by rw [h3, List.length_append, List.length_singleton, hlk]
          have hcl : (P.getD i [] ++ [idAt (graphV V).1 j]).length = n + 1 := by rw [List.length_append, List.length_singleton, hli]
          cases hls : lessB (P.getD i [] ++ [idAt (graphV V).1 j]) b
          · rw [hls, Bool.or_false, decide_eq_false (by omega), if_neg (by simp)] at hstep
            subst hstep
            refine .inr ⟨⟨k, by omega, h2, h3⟩, fun q hq hcq => ?_⟩
            rcases Nat.lt_or_ge q i with h | h
            · exact h4 q h hcq
            · rw [show q = i by omega]
              rcases lexI_total (hbl.trans hcl.symm) with h5 | h5 | h5
              · exact .inr h5
              · exact .inl h5
              · rw [lessB_iff.2 h5] at hls; cases hls
          · rw [hls, Bool.or_true, if_pos rfl] at hstep
            have hlx := lessB_iff.1 hls
            refine .inr ⟨⟨i, by omega, hc, hstep⟩, fun q hq hcq => ?_⟩
            rcases Nat.lt_or_ge q i with h | h
            · right
              rw [hstep]
              rcases h4 q h hcq with h5 | h5
              · rw [← h5]; exact hlx
              · exact lexI_trans hlx h5
            · rw [show q = i by omega]; exact .inl hstep
  rcases hinv _ (Nat.le_refl _) with ⟨h1, h2⟩ | ⟨⟨k, h1, h2, h3⟩, h4⟩
  · rw [h2]
    unfold truncP
    cases hp : pathsT (graphV V).1 R (idAt (graphV V).1 j) with
    | none => rfl
    | some m =>
      show [] = if m.length ≤ n + 1 then m else []
      split
      · rename_i hm
        exfalso
        have hgt : n < m.length := by
          have h5 := hP j hj
          rw [h5] at hA
          unfold truncP at hA
          rw [hp] at hA
          simp only at hA
          split at hA
          · have := path_pos' hp; omega
          · omega
        obtain ⟨q, hq1, -, hq3⟩ := bfs_path (graphV V).1 R (graphV V).1.length _ m hp
        have hql : q.length = n := by rw [hq1, List.length_append, List.length_singleton] at hm hgt; omega
        rcases hq3 with ⟨hq, -⟩ | ⟨f, hf, hfs⟩
        · rw [hq] at hql; simp at hql; omega
        · obtain ⟨-, -, hf2, -⟩ := bfs_path (graphV V).1 R (graphV V).1.length f q hf
          obtain ⟨i, hi, hix⟩ := at_index hf2
          have hc := h1 i hi
          have hPi : P.getD i [] = q := by
            rw [hP i hi]
            unfold truncP
            rw [hix, show pathsT (graphV V).1 R f = some q from hf]
            show (if q.length ≤ n then q else []) = q
            rw [if_pos (by omega)]
          rw [← hix] at hfs
          have hfd := (holds_iff (at_mem hi)).2 ((succ_of (at_first hi)).1 hfs)
          rw [← rfield_eq (at_mem hi)] at hfd
          unfold candB at hc
          rw [hPi, decide_eq_true hql, decide_eq_true hA, decide_eq_true hfd] at hc
          cases hc
      · rfl
  · obtain ⟨hk1, hk2, hk3⟩ := cand_law hn h1 hj hP h2
    obtain ⟨m, hm, hml⟩ := path_near hk1 hk3 hfy
    have hgt : n < m.length := by
      have h5 := hP j hj
      rw [h5] at hA
      unfold truncP at hA
      rw [hm] at hA
      simp only at hA
      split at hA
      · have := path_pos' hm; omega
      · omega
    have hmn : m.length = n + 1 := by omega
    have htr : truncP (graphV V).1 R (n + 1) j = m := by
      unfold truncP
      rw [hm]
      show (if m.length ≤ n + 1 then m else []) = m
      rw [if_pos (by omega)]
    rw [htr]
    have hm1 : m = bestK (graphV V).1 P n j (graphV V).1.length ∨ lexI m (bestK (graphV V).1 P n j (graphV V).1.length) := by
      rw [h3]
      exact path_least hk1 hk3 hm (by omega)
    -- the path itself is a candidate
    obtain ⟨q, hq1, -, hq3⟩ := bfs_path (graphV V).1 R (graphV V).1.length _ m hm
    have hql : q.length = n := by rw [hq1, List.length_append, List.length_singleton] at hmn; omega
    rcases hq3 with ⟨hq, -⟩ | ⟨f, hf, hfs⟩
    · rw [hq] at hql; simp at hql; omega
    obtain ⟨-, -, hf2, -⟩ := bfs_path (graphV V).1 R (graphV V).1.length f q hf
    obtain ⟨i, hi, hix⟩ := at_index hf2
    have hPi : P.getD i [] = q := by
      rw [hP i hi]
      unfold truncP
      rw [hix, show pathsT (graphV V).1 R f = some q from hf]
      show (if q.length ≤ n then q else []) = q
      rw [if_pos (by omega)]
    rw [← hix] at hfs
    have hfd := (holds_iff (at_mem hi)).2 ((succ_of (at_first hi)).1 hfs)
    rw [← rfield_eq (at_mem hi)] at hfd
    have hc : candB (graphV V).1 P n i j = true := by
      unfold candB
      rw [hPi, decide_eq_true hql, decide_eq_true hA, decide_eq_true hfd]
      rfl
    have h5 := h4 i hi hc
    rw [hPi, ← hq1] at h5
    rcases h5 with h5 | h5
    · exact h5
    · rcases hm1 with h6 | h6
      · exact h6.symm
      · exact absurd h6 (lexI_asymm h5)
theorem least_law : ∀ (n j : Nat), j < (graphV V).1.length → (leastP (graphV V).1 R n).getD j [] = truncP (graphV V).1 R (n + 1) j
  | 0, j, hj => init_law hj
  | n + 1, j, hj => by
    have ih := fun j hj => least_law n j hj
    show (leastNext (graphV V).1 (leastP (graphV V).1 R n) (n + 1)).getD j [] = _
    unfold leastNext
    rw [List.getD_eq_getElem?_getD, List.getElem?_map, List.getElem?_range hj]
    exact best_law (by omega) hj ih
/-- The path of the node at j. -/
theorem least_end {j : Nat} (hj : j < (graphV V).1.length) : (leastP (graphV V).1 R ((graphV V).1.length - 1)).getD j [] = searchL (graphV V).1 R (idAt (graphV V).1 j) := by
  rw [least_law _ j hj]
  unfold truncP searchL
  cases hp : pathsT (graphV V).1 R (idAt (graphV V).1 j) with
  | none => rfl
  | some l =>
    show (if l.length ≤ (graphV V).1.length - 1 + 1 then l else []) = l
    rw [if_pos (by have := paths_len hp; omega)]
end
end Go.Proofs.YtpkfenlfgdbkcaaGreatDoor

/-
  What the union of graphs is: plain Lean. No condition.
-/
import Derived.Test.YtjegncmkebbdfaaGreatDoorGrpI
set_option linter.unusedSimpArgs false
set_option linter.unusedVariables false
namespace Go.Proofs.YtjegncmkebbdfaaGreatDoor
theorem NodeC.ext' {a b : NodeC} (h1 : a.id = b.id) (h2 : a.kind = b.kind) (h3 : a.clas = b.clas) (h4 : a.fields = b.fields) : a = b := by
  cases a; cases b
  simp only [NodeC.id, IDE.mk.injEq] at h1 h2 h3 h4
  obtain ⟨h1, h5⟩ := h1
  subst h1 h5 h2 h3 h4
  rfl
instance : DecidableEq NodeC := fun a b => decidable_of_iff (a.id = b.id ∧ a.kind = b.kind ∧ a.clas = b.clas ∧ a.fields = b.fields) ⟨fun h => NodeC.ext' h.1 h.2.1 h.2.2.1 h.2.2.2, fun h => by subst h; exact ⟨rfl, rfl, rfl, rfl⟩⟩
/-- The node for an identity that has two nodes. -/
def mergeN (a b : NodeC) : Option NodeC :=
  if (a.kind = 3 ↔ b.kind = 3) then (if a = b then some a else none)
  else if a.clas = b.clas then some (if a.kind = 3 then b else a) else none
theorem mergeN_id {a b m : NodeC} (hab : a.id = b.id) (h : mergeN a b = some m) : m.id = b.id := by
  unfold mergeN at h
  split at h
  · split at h
    · injection h with h; rw [← h, hab]
    · cases h
  · split at h
    · injection h with h
      rw [← h]
      split
      · rfl
      · exact hab
    · cases h
theorem mergeN_self (a : NodeC) : mergeN a a = some a := by unfold mergeN; rw [if_pos Iff.rfl, if_pos rfl]
theorem mergeN_comm (a b : NodeC) : mergeN a b = mergeN b a := by
  have e : (a = b) = (b = a) := propext ⟨Eq.symm, Eq.symm⟩
  have e2 : (a.clas = b.clas) = (b.clas = a.clas) := propext ⟨Eq.symm, Eq.symm⟩
  unfold mergeN
  by_cases h1 : a.kind = 3 <;> by_cases h2 : b.kind = 3 <;> by_cases h3 : a = b <;> by_cases h4 : a.clas = b.clas <;> (try subst h3) <;> simp_all
/-- What was merged in once may be merged in again. -/
theorem mergeN_again {a b m : NodeC} (h : mergeN a b = some m) : mergeN m b = some m ∧ mergeN m a = some m := by
  unfold mergeN at h
  by_cases h1 : (a.kind = 3 ↔ b.kind = 3)
  · rw [if_pos h1] at h
    split at h
    · next h2 => injection h with h; subst h; subst h2; exact ⟨mergeN_self _, mergeN_self _⟩
    · cases h
  · rw [if_neg h1] at h
    split at h
    · next h2 =>
      injection h with h
      by_cases h3 : a.kind = 3
      · rw [if_pos h3] at h
        subst h
        refine ⟨mergeN_self _, ?_⟩
        unfold mergeN
        rw [if_neg (fun h => h1 h.symm), if_pos h2.symm, if_neg (fun h => h1 (by simp [h3, h]))]
      · rw [if_neg h3] at h
        subst h
        refine ⟨?_, mergeN_self _⟩
        unfold mergeN
        rw [if_neg h1, if_pos h2, if_neg h3]
    · cases h
/-! ### One node more, at its place -/
/-- Where a node of this identity stands or would stand. -/
def posN (l : List NodeC) (x : IDE) : Nat := cntI x (ids l)
/-- One node more. -/
def putN (l : List NodeC) (n : NodeC) : Option (List NodeC) :=
  match l[posN l n.id]? with
  | some a => if a.id = n.id then (mergeN a n).map fun m => l.set (posN l n.id) m else some (l.take (posN l n.id) ++ [n] ++ l.drop (posN l n.id))
  | none => some (l.take (posN l n.id) ++ [n] ++ l.drop (posN l n.id))
def SortedN (l : List NodeC) : Prop := SortedI (ids l)
theorem ids_get {l : List NodeC} {k : Nat} : (ids l)[k]? = (l[k]?).map NodeC.id := by unfold ids; rw [List.getElem?_map]
theorem ids_len (l : List NodeC) : (ids l).length = l.length := by unfold ids; rw [List.length_map]
theorem sorted_at {l : List IDE} (h : SortedI l) {i j : Nat} {x y : IDE} (hij : i < j) (hx : l[i]? = some x) (hy : l[j]? = some y) : ltI x y := by
  obtain ⟨h1, e1⟩ := List.getElem?_eq_some_iff.1 hx
  obtain ⟨h2, e2⟩ := List.getElem?_eq_some_iff.1 hy
  rw [← e1, ← e2]
  exact List.pairwise_iff_getElem.1 h i j h1 h2 hij
theorem cntI_stop {x : IDE} : ∀ {l : List IDE} {y : IDE}, l[cntI x l]? = some y → ¬ ltI y x
  | [], y, h => by cases h
  | z :: l, y, h => by
    unfold cntI at h
    split at h
    · rw [List.getElem?_cons_succ] at h
      exact cntI_stop h
    · next hz =>
      injection h with h
      subst h
      exact hz
theorem sorted_pos {l : List NodeC} (hs : SortedN l) {x : IDE} {k : Nat} {a : NodeC} (ha : l[k]? = some a) (hx : a.id = x) : posN l x = k := by
  have hk : (ids l)[k]? = some x := by rw [ids_get, ha]; exact congrArg some hx
  refine cntI_eq ?_ ?_ ?_
  · rw [ids_len]; exact Nat.le_of_lt (List.getElem?_eq_some_iff.1 ha).1
  · intro j y hj hy
    exact sorted_at hs hj hy hk
  · intro y hy
    rw [hk] at hy
    injection hy with hy
    subst hy
    exact ltI_irrefl _
theorem firstN_at {l : List NodeC} (hs : SortedN l) {k : Nat} {a : NodeC} (ha : l[k]? = some a) : firstN l a.id = some a := by
  cases h : firstN l a.id with
  | none => exact absurd rfl (firstN_none.1 h a (List.mem_of_getElem? ha))
  | some b =>
    obtain ⟨h1, h2⟩ := firstN_some h
    obtain ⟨j, hj⟩ := List.getElem?_of_mem h1
    have e1 := sorted_pos hs ha rfl
    have e2 := sorted_pos hs hj h2
    have : k = j := by omega
    subst this
    rw [ha] at hj
    exact hj.symm
theorem firstN_mem {l : List NodeC} (hs : SortedN l) {a : NodeC} (ha : a ∈ l) : firstN l a.id = some a := by
  obtain ⟨k, hk⟩ := List.getElem?_of_mem ha
  exact firstN_at hs hk
/-- Two sorted lists with the same nodes are one. -/
theorem sortedN_unique {a b : List NodeC} (ha : SortedN a) (hb : SortedN b) (h : ∀ x, firstN a x = firstN b x) : a = b := by
  have hi : ids a = ids b := sortedI_unique ha hb fun x => by rw [← firstN_ids, ← firstN_ids, h]
  have hl : a.length = b.length := by rw [← ids_len a, hi, ids_len]
  refine List.ext_getElem? fun k => ?_
  rcases Nat.lt_or_ge k a.length with hk | hk
  · have ea : a[k]? = some a[k] := List.getElem?_eq_getElem hk
    have eb : b[k]? = some b[k] := List.getElem?_eq_getElem (by omega)
    have hid : a[k].id = b[k].id := by
      have h1 : (ids a)[k]? = some a[k].id := by rw [ids_get, ea]; rfl
      have h2 : (ids b)[k]? = some b[k].id := by rw [ids_get, eb]; rfl
      rw [hi, h2] at h1
      injection h1 with h1
      exact h1.symm
    have h3 := firstN_at ha ea
    have h4 := firstN_at hb eb
    rw [h, hid, h4] at h3
    rw [ea, eb, h3]
  · rw [List.getElem?_eq_none hk, List.getElem?_eq_none (by omega)]
theorem ids_put (l : List NodeC) (n : NodeC) : ids (l.take (posN l n.id) ++ [n] ++ l.drop (posN l n.id)) = (ids l).take (cntI n.id (ids l)) ++ [n.id] ++ (ids l).drop (cntI n.id (ids l)) := by
  unfold posN
  show (l.take (cntI n.id (ids l)) ++ [n] ++ l.drop (cntI n.id (ids l))).map NodeC.id = _
  rw [List.map_append, List.map_append, List.map_take, List.map_drop]
  rfl
theorem putN_spec {l : List NodeC} (hs : SortedN l) (n : NodeC) :
    match firstN l n.id with
    | none => ∃ l', putN l n = some l' ∧ SortedN l' ∧ l'.length = l.length + 1 ∧ ∀ x, firstN l' x = if x = n.id then some n else firstN l x
    | some a => (mergeN a n = none → putN l n = none) ∧ ∀ m, mergeN a n = some m → ∃ l', putN l n = some l' ∧ SortedN l' ∧ l'.length = l.length ∧ ∀ x, firstN l' x = if x = n.id then some m else firstN l x := by
  cases hf : firstN l n.id with
  | none =>
    have hno : ∀ a ∈ l, a.id ≠ n.id := firstN_none.1 hf
    have hput : putN l n = some (l.take (posN l n.id) ++ [n] ++ l.drop (posN l n.id)) := by
      unfold putN
      cases h : l[posN l n.id]? with
      | none => rfl
      | some a => dsimp only; rw [if_neg (hno a (List.mem_of_getElem? h))]
    have hnm : (ids l)[cntI n.id (ids l)]? ≠ some n.id := fun h => by
      obtain ⟨a, h1, h2⟩ := List.mem_map.1 (List.mem_of_getElem? h)
      exact hno a h1 h2
    have hsort : SortedN (l.take (posN l n.id) ++ [n] ++ l.drop (posN l n.id)) := by
      unfold SortedN
      rw [ids_put]
      have := putI_sorted hs n.id
      unfold putI at this
      rwa [if_neg hnm] at this
    refine ⟨_, hput, hsort, ?_, fun x => ?_⟩
    · have := cntI_le n.id (ids l)
      rw [ids_len] at this
      simp only [List.length_append, List.length_take, List.length_drop, List.length_singleton]
      unfold posN
      omega
    · by_cases hx : x = n.id
      · subst hx
        rw [if_pos rfl]
        exact firstN_mem hsort (by simp)
      · rw [if_neg hx]
        cases h : firstN l x with
        | none =>
          refine firstN_none.2 fun a ha => ?_
          rw [List.mem_append, List.mem_append, List.mem_singleton] at ha
          rcases ha with (ha | rfl) | ha
          · exact firstN_none.1 h a (List.mem_of_mem_take ha)
          · exact fun e => hx e.symm
          · exact firstN_none.1 h a (List.mem_of_mem_drop ha)
        | some a =>
          obtain ⟨h1, h2⟩ := firstN_some h
          subst h2
          refine firstN_mem hsort ?_
          rw [← List.take_append_drop (posN l n.id) l, List.mem_append] at h1
          rw [List.mem_append, List.mem_append]
          rcases h1 with h1 | h1
          · exact .inl (.inl h1)
          · exact .inr h1
  | some a =>
    obtain ⟨h1, h2⟩ := firstN_some hf
    obtain ⟨k, hk⟩ := List.getElem?_of_mem h1
    have hp := sorted_pos hs hk h2
    have hput : putN l n = (mergeN a n).map fun m => l.set k m := by
      unfold putN
      rw [hp, hk]
      dsimp only
      rw [if_pos h2]
    refine ⟨fun hm => by rw [hput, hm]; rfl, fun m hm => ⟨l.set k m, by rw [hput, hm]; rfl, ?_, by rw [List.length_set], fun x => ?_⟩⟩
    all_goals
      have hmid := mergeN_id h2 hm
      have hids : ids (l.set k m) = ids l := by
        unfold ids
        rw [List.map_set]
        refine List.ext_getElem? fun j => ?_
        rw [List.getElem?_set]
        split
        · next hj =>
          subst hj
          have hkl := (List.getElem?_eq_some_iff.1 hk).1
          rw [if_pos (by rw [List.length_map]; exact hkl), List.getElem?_map, hk, Option.map_some, hmid, h2]
        · rfl
      have hsort : SortedN (l.set k m) := by unfold SortedN; rw [hids]; exact hs
    · exact hsort
    · have hkl := (List.getElem?_eq_some_iff.1 hk).1
      by_cases hx : x = n.id
      · subst hx
        rw [if_pos rfl, ← hmid]
        exact firstN_mem hsort (List.mem_of_getElem? (i := k) (by rw [List.getElem?_set_self (by exact hkl)]))
      · rw [if_neg hx]
        cases h : firstN l x with
        | none =>
          refine firstN_none.2 fun b hb => ?_
          rcases List.mem_or_eq_of_mem_set hb with hb | rfl
          · exact firstN_none.1 h b hb
          · rw [hmid]; exact fun e => hx e.symm
        | some b =>
          obtain ⟨h3, h4⟩ := firstN_some h
          obtain ⟨j, hj⟩ := List.getElem?_of_mem h3
          subst h4
          refine firstN_mem hsort (List.mem_of_getElem? (i := j) ?_)
          rw [List.getElem?_set, if_neg (fun e => ?_)]
          · exact hj
          · subst e
            rw [hk] at hj
            injection hj with hj
            subst hj
            exact hx h2
/-! ### Many nodes -/
def putAll : List NodeC → List NodeC → Option (List NodeC)
  | acc, [] => some acc
  | acc, n :: ns => match putN acc n with
    | none => none
    | some acc' => putAll acc' ns
theorem putAll_app (acc a b : List NodeC) : putAll acc (a ++ b) = (putAll acc a).bind fun q => putAll q b := by
  induction a generalizing acc with
  | nil => rfl
  | cons n a ih =>
    rw [List.cons_append, putAll, putAll]
    cases putN acc n with
    | none => rfl
    | some q => exact ih q
theorem putAll_sorted {ns : List NodeC} : ∀ {acc q : List NodeC}, SortedN acc → putAll acc ns = some q → SortedN q ∧ q.length ≤ acc.length + ns.length := by
  induction ns with
  | nil => intro acc q hs h; injection h with h; subst h; exact ⟨hs, Nat.le_refl _⟩
  | cons n ns ih =>
    intro acc q hs h
    rw [putAll] at h
    have hp := putN_spec hs n
    cases hf : firstN acc n.id with
    | none =>
      rw [hf] at hp
      obtain ⟨l', h1, h2, h3, _⟩ := hp
      rw [h1] at h
      obtain ⟨h5, h6⟩ := ih h2 h
      exact ⟨h5, by rw [List.length_cons]; omega⟩
    | some a =>
      rw [hf] at hp
      cases hm : mergeN a n with
      | none => rw [hp.1 hm] at h; cases h
      | some m =>
        obtain ⟨l', h1, h2, h3, _⟩ := hp.2 m hm
        rw [h1] at h
        obtain ⟨h5, h6⟩ := ih h2 h
        exact ⟨h5, by rw [List.length_cons]; omega⟩
/-- What becomes of an identity's node when a graph is merged in; none: a contradiction. -/
def combN (a b : Option NodeC) : Option (Option NodeC) :=
  match a, b with
  | none, y => some y
  | x, none => some x
  | some a, some b => (mergeN a b).map some
theorem putAll_graph {g : List NodeC} (hg : (ids g).Nodup) : ∀ {acc : List NodeC}, SortedN acc →
    ((∃ x, combN (firstN acc x) (firstN g x) = none) → putAll acc g = none) ∧
    ((∀ x, combN (firstN acc x) (firstN g x) ≠ none) → ∃ q, putAll acc g = some q ∧ SortedN q ∧ ∀ x, combN (firstN acc x) (firstN g x) = some (firstN q x)) := by
  induction g with
  | nil =>
    intro acc hs
    have hn : ∀ x, combN (firstN acc x) (firstN [] x) = some (firstN acc x) := fun x => by
      show combN (firstN acc x) none = _
      cases firstN acc x <;> rfl
    exact ⟨fun ⟨x, hx⟩ => (by rw [hn] at hx; cases hx), fun _ => ⟨acc, rfl, hs, hn⟩⟩
  | cons n g ih =>
    intro acc hs
    have hnd : (ids g).Nodup ∧ n.id ∉ ids g := by
      unfold ids at hg ⊢
      rw [List.map_cons, List.nodup_cons] at hg
      exact ⟨hg.2, hg.1⟩
    have hc : ∀ x, firstN (n :: g) x = if x = n.id then some n else firstN g x := fun x => by
      unfold firstN
      rw [List.find?_cons]
      by_cases hx : n.id = x
      · rw [if_pos hx.symm]; simp [hx]
      · rw [if_neg (fun e => hx e.symm)]; simp [hx]
    have hgn : firstN g n.id = none := by
      cases h : firstN g n.id with
      | none => rfl
      | some b => exact absurd (firstN_ids.1 (by rw [h]; rfl)) hnd.2
    have step : ∀ (l' : List NodeC) (m : NodeC), putN acc n = some l' → SortedN l' → combN (firstN acc n.id) (some n) = some (some m) → (∀ x, firstN l' x = if x = n.id then some m else firstN acc x) →
        ((∃ x, combN (firstN acc x) (firstN (n :: g) x) = none) → putAll acc (n :: g) = none) ∧
        ((∀ x, combN (firstN acc x) (firstN (n :: g) x) ≠ none) → ∃ q, putAll acc (n :: g) = some q ∧ SortedN q ∧ ∀ x, combN (firstN acc x) (firstN (n :: g) x) = some (firstN q x)) := fun l' m h1 h2 hm h3 => by
      have hpa : putAll acc (n :: g) = putAll l' g := by rw [putAll, h1]
      have heq : ∀ x, combN (firstN acc x) (firstN (n :: g) x) = combN (firstN l' x) (firstN g x) := fun x => by
        rw [hc, h3]
        by_cases hx : x = n.id
        · subst hx
          rw [if_pos rfl, if_pos rfl, hgn, hm]
          rfl
        · rw [if_neg hx, if_neg hx]
      rw [hpa]
      simp only [heq]
      exact ih hnd.1 h2
    have hp := putN_spec hs n
    cases hf : firstN acc n.id with
    | none =>
      rw [hf] at hp
      obtain ⟨l', h1, h2, _, h3⟩ := hp
      exact step l' n h1 h2 (by rw [hf]; rfl) h3
    | some a =>
      rw [hf] at hp
      cases hm : mergeN a n with
      | none =>
        have hx : combN (firstN acc n.id) (firstN (n :: g) n.id) = none := by
          rw [hc, if_pos rfl, hf]
          show (mergeN a n).map some = none
          rw [hm]; rfl
        refine ⟨fun _ => ?_, fun h => absurd hx (h n.id)⟩
        rw [putAll, hp.1 hm]
      | some m =>
        obtain ⟨l', h1, h2, _, h3⟩ := hp.2 m hm
        exact step l' m h1 h2 (by rw [hf]; show (mergeN a n).map some = _; rw [hm]; rfl) h3
/-! ### The union -/
/-- Nodes and error: 0 all well, 1 a graph that is not valid, 2 a contradiction. -/
def unionC (ls : List (List NodeC)) : List NodeC × Nat :=
  if ls.all valid16B then (match putAll [] ls.flatten with | some q => (q, 0) | none => ([], 9)) else ([], 1)
theorem valid16_sorted {L : List NodeC} (h : valid16B L = true) : SortedN L := by
  have step : ∀ k a b, L[k]? = some a → L[k + 1]? = some b → ltI a.id b.id := fun k a b ha hb => by
    have hlt := (List.getElem?_eq_some_iff.1 hb).1
    have := List.all_eq_true.1 h (k + 1) (List.mem_range.2 hlt)
    unfold okAtB at this
    rw [hb] at this
    dsimp only at this
    rw [ha] at this
    simp only [Bool.and_eq_true, decide_eq_true_eq] at this
    have h2 := this.2
    unfold cmpI at h2
    split at h2
    · omega
    · split at h2
      · next h3 => exact h3
      · omega
  have all : ∀ (d k : Nat) (a b : NodeC), L[k]? = some a → L[k + 1 + d]? = some b → ltI a.id b.id := fun d => by
    induction d with
    | zero => exact step
    | succ d ih =>
      intro k a b ha hb
      obtain ⟨c, hc⟩ : ∃ c, L[k + 1 + d]? = some c := ⟨_, List.getElem?_eq_getElem (by have := (List.getElem?_eq_some_iff.1 hb).1; omega)⟩
      exact ltI_trans (ih k a c ha hc) (step _ c b hc hb)
  unfold SortedN SortedI
  rw [List.pairwise_iff_getElem]
  intro i j hi hj hij
  have hi' : i < L.length := by rw [ids_len] at hi; exact hi
  have hj' : j < L.length := by rw [ids_len] at hj; exact hj
  have e1 : L[i]? = some L[i] := List.getElem?_eq_getElem hi'
  have e2 : L[j]? = some L[j] := List.getElem?_eq_getElem hj'
  have := all (j - i - 1) i L[i] L[j] e1 (by rw [show i + 1 + (j - i - 1) = j by omega]; exact e2)
  simpa [ids] using this
theorem nil_sorted : SortedN [] := List.Pairwise.nil
theorem firstN_nil (x : IDE) : firstN [] x = none := rfl
/-- A graph alone. -/
theorem putAll_one {a : List NodeC} (ha : valid16B a = true) : putAll [] a = some a := by
  have hs := valid16_sorted ha
  have hc : ∀ x, combN (firstN [] x) (firstN a x) = some (firstN a x) := fun x => rfl
  obtain ⟨q, h1, h2, h3⟩ := (putAll_graph hs.nodup nil_sorted).2 fun x h => by rw [hc] at h; cases h
  rw [h1, sortedN_unique h2 hs fun x => by have := h3 x; rw [hc] at this; injection this with this; exact this.symm]
theorem unionC_two {a b : List NodeC} (ha : valid16B a = true) (hb : valid16B b = true) :
    ((∃ x, combN (firstN a x) (firstN b x) = none) → unionC [a, b] = ([], 9)) ∧ ((∀ x, combN (firstN a x) (firstN b x) ≠ none) → ∃ q, unionC [a, b] = (q, 0) ∧ SortedN q ∧ ∀ x, combN (firstN a x) (firstN b x) = some (firstN q x)) := by
  have hp : putAll [] [a, b].flatten = putAll a b := by
    have : [a, b].flatten = a ++ b := by simp
    rw [this, putAll_app, putAll_one ha]; rfl
  obtain ⟨h1, h2⟩ := putAll_graph (valid16_sorted hb).nodup (valid16_sorted ha)
  have hv : [a, b].all valid16B = true := by simp [ha, hb]
  refine ⟨fun h => ?_, fun h => ?_⟩
  · unfold unionC; rw [if_pos hv, hp, h1 h]
  · obtain ⟨q, h3, h4, h5⟩ := h2 h
    exact ⟨q, by unfold unionC; rw [if_pos hv, hp, h3], h4, h5⟩
theorem combN_comm (a b : Option NodeC) : combN a b = combN b a := by
  cases a <;> cases b <;> first | rfl | (show (mergeN _ _).map some = (mergeN _ _).map some; rw [mergeN_comm])
theorem unionC_bad {ls : List (List NodeC)} {a : List NodeC} (h : a ∈ ls) (ha : valid16B a = false) : unionC ls = ([], 1) := by
  unfold unionC
  rw [if_neg]
  intro h2
  have := List.all_eq_true.1 h2 a h
  rw [ha] at this; cases this
/-- The order of two graphs, and a repetition, change nothing. -/
theorem unionC_comm (a b : List NodeC) : unionC [a, b] = unionC [b, a, b] := by
  cases ha : valid16B a with
  | false => rw [unionC_bad (a := a) (by simp) ha, unionC_bad (a := a) (by simp) ha]
  | true =>
    cases hb : valid16B b with
    | false => rw [unionC_bad (a := b) (by simp) hb, unionC_bad (a := b) (by simp) hb]
    | true =>
      have hv : [b, a, b].all valid16B = true := by simp [ha, hb]
      have hp : putAll [] [b, a, b].flatten = (putAll b a).bind fun q => putAll q b := by
        have : [b, a, b].flatten = b ++ (a ++ b) := by simp
        rw [this, putAll_app, putAll_one hb]
        show putAll b (a ++ b) = _
        rw [putAll_app]
      obtain ⟨h1, h2⟩ := unionC_two ha hb
      obtain ⟨k1, k2⟩ := putAll_graph (valid16_sorted ha).nodup (valid16_sorted hb)
      by_cases h : ∃ x, combN (firstN a x) (firstN b x) = none
      · rw [h1 h]
        obtain ⟨x, hx⟩ := h
        unfold unionC
        rw [if_pos hv, hp, k1 ⟨x, by rw [combN_comm]; exact hx⟩]
        rfl
      · have h' : ∀ x, combN (firstN a x) (firstN b x) ≠ none := fun x hx => h ⟨x, hx⟩
        obtain ⟨q, e1, e2, e3⟩ := h2 h'
        obtain ⟨q', f1, f2, f3⟩ := k2 fun x => by rw [combN_comm]; exact h' x
        have hqq : q' = q := sortedN_unique f2 e2 fun x => by
          have h3 := e3 x
          have h4 := f3 x
          rw [combN_comm, h3] at h4
          injection h4 with h4
          exact h4.symm
        subst hqq
        have hagain : ∀ x, combN (firstN q' x) (firstN b x) = some (firstN q' x) := fun x => by
          have h3 := e3 x
          cases hfa : firstN a x with
          | none =>
            rw [hfa] at h3
            have h3 : some (firstN b x) = some (firstN q' x) := h3
            injection h3 with h3
            rw [← h3]
            cases hfb : firstN b x with
            | none => rfl
            | some y => show (mergeN y y).map some = _; rw [mergeN_self]; rfl
          | some y =>
            rw [hfa] at h3
            cases hfb : firstN b x with
            | none =>
              cases firstN q' x <;> rfl
            | some z =>
              rw [hfb] at h3
              have h3 : (mergeN y z).map some = some (firstN q' x) := h3
              cases hm : mergeN y z with
              | none => rw [hm] at h3; cases h3
              | some m =>
                rw [hm] at h3
                injection h3 with h3
                rw [← h3]
                show (mergeN m z).map some = _
                rw [(mergeN_again hm).1]; rfl
        obtain ⟨r, g1, g2, g3⟩ := (putAll_graph (valid16_sorted hb).nodup f2).2 fun x hx => by rw [hagain] at hx; cases hx
        have hrq : r = q' := sortedN_unique g2 f2 fun x => by
          have := g3 x
          rw [hagain] at this
          injection this with this
          exact this.symm
        rw [e1]
        unfold unionC
        rw [if_pos hv, hp, f1]
        show _ = (match putAll q' b with | some q => (q, 0) | none => ([], 9))
        rw [g1, hrq]
theorem unionC_self {a : List NodeC} (ha : valid16B a = true) : unionC [a, a] = (a, 0) ∧ unionC [[], a] = (a, 0) := by
  have hn : valid16B [] = true := rfl
  have hc : ∀ x, combN (firstN a x) (firstN a x) = some (firstN a x) := fun x => by
    cases firstN a x with
    | none => rfl
    | some y => show (mergeN y y).map some = _; rw [mergeN_self]; rfl
  constructor
  · obtain ⟨q, h1, h2, h3⟩ := (unionC_two ha ha).2 fun x h => by rw [hc] at h; cases h
    rw [h1, sortedN_unique h2 (valid16_sorted ha) fun x => by have := h3 x; rw [hc] at this; injection this with this; exact this.symm]
  · have hv : [[], a].all valid16B = true := by simp [hn, ha]
    have hp : putAll [] [[], a].flatten = putAll [] a := by simp
    unfold unionC
    rw [if_pos hv, hp, putAll_one ha]
end Go.Proofs.YtjegncmkebbdfaaGreatDoor

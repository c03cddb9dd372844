/-
  The traces that have locks, as both programs list them: plain Lean. No condition.
-/
import Derived.Test.YtnjpmpelgigmjaaC34Locked1
import Derived.Test.YtnjpmpelgigmjaaPlainLib
namespace Go.Proofs.Ytnjpmpelgigmjaa
instance : DecidableEq TraceE := fun a b => decidable_of_iff (a.beq b = true) TraceE.beq_iff
def ltT (x y : TraceE) : Prop := x.machine < y.machine ∨ (x.machine = y.machine ∧ x.serial < y.serial)
instance (x y : TraceE) : Decidable (ltT x y) := by unfold ltT; infer_instance
theorem ltT_irrefl (x : TraceE) : ¬ ltT x x := by unfold ltT; omega
theorem ltT_trans {x y z : TraceE} (h : ltT x y) (k : ltT y z) : ltT x z := by unfold ltT at *; omega
theorem ltT_asymm {x y : TraceE} (h : ltT x y) : ¬ ltT y x := by unfold ltT at *; omega
theorem ltT_tri {x y : TraceE} (h : ¬ ltT x y) (k : x ≠ y) : ltT y x := by
  have hne : ¬ (x.machine = y.machine ∧ x.serial = y.serial) := fun e => k (by cases x; cases y; simp only at e; rw [e.1, e.2])
  unfold ltT at *; omega
theorem teq_dec (x y : TraceE) : teq x.machine x.serial y.machine y.serial = decide (x = y) := by
  by_cases h : x = y
  · subst h; simp [teq]
  · have : ¬ (x.machine = y.machine ∧ x.serial = y.serial) := fun e => h (by cases x; cases y; simp only at e; rw [e.1, e.2])
    simp only [h, decide_false]
    simp only [teq, Bool.and_eq_false_iff, beq_eq_false_iff_ne, ne_eq]
    omega
abbrev StrictT (l : List TraceE) : Prop := l.Pairwise ltT
theorem StrictT.nodup {l : List TraceE} (h : StrictT l) : l.Nodup := h.imp fun h e => by subst e; exact ltT_irrefl _ h
/-! ### Compact -/
def cptStep (acc : List TraceE) (x : TraceE) : List TraceE := if acc.getLast? = some x then acc else acc ++ [x]
def cpt (l : List TraceE) : List TraceE := l.foldl cptStep []
theorem cpt_last (l : List TraceE) : (cpt l).getLast? = l.getLast? := by
  rcases List.eq_nil_or_concat l with rfl | ⟨l', x, rfl⟩
  · rfl
  · rw [List.concat_eq_append]
    unfold cpt
    rw [List.foldl_append]
    simp only [List.foldl_cons, List.foldl_nil, cptStep]
    split
    · rename_i h; rw [h]; simp
    · simp
theorem cpt_snoc (l : List TraceE) (x : TraceE) : cpt (l ++ [x]) = if l.getLast? = some x then cpt l else cpt l ++ [x] := by
  have h : cpt (l ++ [x]) = cptStep (cpt l) x := by unfold cpt; rw [List.foldl_append]; rfl
  rw [h, cptStep, cpt_last]
theorem cpt_mem (l : List TraceE) : ∀ x, x ∈ cpt l ↔ x ∈ l := by
  have : ∀ (r : List TraceE) (x : TraceE), x ∈ cpt r.reverse ↔ x ∈ r.reverse := by
    intro r
    induction r with
    | nil => intro x; simp [cpt]
    | cons y r ih =>
      intro x
      rw [List.reverse_cons, cpt_snoc]
      split
      · rename_i h
        rw [ih, List.mem_append, List.mem_singleton]
        constructor
        · exact .inl
        · rintro (h1 | rfl)
          · exact h1
          · exact List.mem_of_getLast? h
      · rw [List.mem_append, List.mem_append, ih]
  have h := this l.reverse
  rwa [List.reverse_reverse] at h
theorem cpt_take {l : List TraceE} {k : Nat} {x y : TraceE} (hx : l[k]? = some x) (hy : l[k + 1]? = some y) : cpt (l.take (k + 1 + 1)) = if x = y then cpt (l.take (k + 1)) else cpt (l.take (k + 1)) ++ [y] := by
  rw [take_snoc_get hy, cpt_snoc, take_snoc_get hx]
  simp
theorem cpt_le (l : List TraceE) : (cpt l).length ≤ l.length := by
  have : ∀ (r : List TraceE), (cpt r.reverse).length ≤ r.length := by
    intro r
    induction r with
    | nil => simp [cpt]
    | cons y r ih =>
      rw [List.reverse_cons, cpt_snoc]
      split
      · simp only [List.length_cons]; omega
      · simp only [List.length_append, List.length_cons, List.length_nil]; omega
  have h := this l.reverse
  rwa [List.reverse_reverse, List.length_reverse] at h
theorem cpt_strict {l : List TraceE} (h : l.Pairwise fun x y => ¬ ltT y x) : StrictT (cpt l) := by
  have : ∀ (r : List TraceE), r.reverse.Pairwise (fun x y => ¬ ltT y x) → StrictT (cpt r.reverse) := by
    intro r
    induction r with
    | nil => intro _; exact List.Pairwise.nil
    | cons y r ih =>
      rw [List.reverse_cons, cpt_snoc]
      intro hp
      rw [List.pairwise_append] at hp
      obtain ⟨h1, -, h3⟩ := hp
      split
      · exact ih h1
      · rename_i hl
        refine List.pairwise_append.2 ⟨ih h1, by simp, fun a ha b hb => ?_⟩
        rw [List.mem_singleton] at hb
        subst hb
        rw [cpt_mem] at ha
        obtain ⟨r', z, hr⟩ : ∃ r' z, r.reverse = r' ++ [z] := by
          rcases List.eq_nil_or_concat r.reverse with e | ⟨r', z, e⟩
          · rw [e] at ha; cases ha
          · exact ⟨r', z, by rw [e, List.concat_eq_append]⟩
        have hz : ltT z b := by
          have hzb : ¬ ltT b z := h3 z (by rw [hr]; simp) b (by simp)
          by_cases e : b = z
          · subst e; rw [hr] at hl; simp at hl
          · exact ltT_tri hzb e
        rw [hr] at ha h1
        rcases List.mem_append.1 ha with ha | ha
        · have haz := (List.pairwise_append.1 h1).2.2 a ha z (by simp)
          by_cases e : z = a
          · subst e; exact hz
          · exact ltT_trans (ltT_tri haz e) hz
        · rw [List.mem_singleton] at ha; subst ha; exact hz
  have k := this l.reverse
  rw [List.reverse_reverse] at k
  exact k h
/-! ### the reference's put -/
def insT : List TraceE → TraceE → List TraceE
  | [], t => [t]
  | x :: l, t => if ltT x t then x :: insT l t else if x = t then x :: l else t :: x :: l
def putT (l : List TraceE) (t : TraceE) : List TraceE := if zeroT t then l else insT l t
def countT (l : List TraceE) (t : TraceE) : Nat := (l.takeWhile fun x => decide (ltT x t)).length
theorem countT_le (l : List TraceE) (n : TraceE) : countT l n ≤ l.length := by
  unfold countT; exact (List.takeWhile_sublist _).length_le
theorem countT_eq {l : List TraceE} {n : TraceE} {k : Nat} (hk : k ≤ l.length) (h1 : ∀ (j : Nat) (x : TraceE), j < k → l[j]? = some x → ltT x n) (h2 : ∀ x, l[k]? = some x → ¬ ltT x n) : countT l n = k := by
  unfold countT
  induction l generalizing k with
  | nil => simp at hk; simp [hk]
  | cons y l ih =>
    cases k with
    | zero =>
      have := h2 y rfl
      simp [List.takeWhile_cons, this]
    | succ k =>
      have hy := h1 0 y (by omega) rfl
      rw [List.takeWhile_cons]
      simp only [hy, decide_true, if_true, List.length_cons]
      rw [ih (by simpa using hk) (fun j x hj hx => h1 (j + 1) x (by omega) (by simpa using hx)) (fun x hx => h2 x (by simpa using hx))]
theorem ins_count : ∀ (l : List TraceE) (t : TraceE), insT l t = if l[countT l t]? = some t then l else l.take (countT l t) ++ [t] ++ l.drop (countT l t)
  | [], t => by simp [insT, countT]
  | x :: l, t => by
    have ih := ins_count l t
    by_cases h : ltT x t
    · have hc : countT (x :: l) t = countT l t + 1 := by simp [countT, h]
      unfold insT
      rw [hc, if_pos h, ih]
      simp only [List.getElem?_cons_succ, List.take_succ_cons, List.drop_succ_cons]
      split <;> simp
    · have hc : countT (x :: l) t = 0 := by simp [countT, h]
      unfold insT
      rw [hc, if_neg h]
      simp
theorem mem_insT : ∀ {l : List TraceE} {e : TraceE}, ∀ x, x ∈ insT l e ↔ x ∈ l ∨ x = e
  | [], e, x => by simp [insT]
  | y :: l, e, x => by
    have ih := mem_insT (l := l) (e := e) x
    unfold insT
    split
    · simp only [List.mem_cons, ih, or_assoc]
    · split
      · rename_i h; subst h
        simp only [List.mem_cons]
        constructor
        · exact .inl
        · rintro (h | h)
          · exact h
          · exact .inl h
      · simp only [List.mem_cons]
        constructor
        · rintro (h | h)
          · exact .inr h
          · exact .inl h
        · rintro (h | h)
          · exact .inr h
          · exact .inl h
theorem strict_insT : ∀ {l : List TraceE} {e : TraceE}, StrictT l → StrictT (insT l e)
  | [], e, _ => by simp [insT]
  | y :: l, e, h => by
    have hy : ∀ z ∈ l, ltT y z := fun z hz => List.rel_of_pairwise_cons h hz
    have ih := strict_insT (l := l) (e := e) h.tail
    unfold insT
    by_cases h1 : ltT y e
    · rw [if_pos h1]
      refine List.pairwise_cons.2 ⟨fun z hz => ?_, ih⟩
      rcases (mem_insT z).1 hz with h | rfl
      · exact hy z h
      · exact h1
    · rw [if_neg h1]
      by_cases h2 : y = e
      · rw [if_pos h2]; exact h
      · rw [if_neg h2]
        have hey := ltT_tri h1 h2
        refine List.pairwise_cons.2 ⟨fun z hz => ?_, h⟩
        rcases List.mem_cons.1 hz with rfl | hz
        · exact hey
        · exact ltT_trans hey (hy z hz)
theorem insT_len : ∀ (l : List TraceE) (t : TraceE), (insT l t).length ≤ l.length + 1
  | [], t => by simp [insT]
  | x :: l, t => by
    have := insT_len l t
    unfold insT
    split
    · simp only [List.length_cons]; omega
    · split <;> simp
theorem putT_len (l : List TraceE) (t : TraceE) : (putT l t).length ≤ l.length + 1 := by
  unfold putT
  split
  · omega
  · exact insT_len _ _
def lockedL (ls : List TraceE) : List TraceE := ls.foldl putT []
theorem locked_take {ls : List TraceE} {k : Nat} {x : TraceE} (hx : ls[k]? = some x) : lockedL (ls.take (k + 1)) = putT (lockedL (ls.take k)) x := by
  unfold lockedL; rw [take_snoc_get hx, List.foldl_append]; rfl
theorem foldPut (ls : List TraceE) : ∀ (B : List TraceE), StrictT B → StrictT (ls.foldl putT B) ∧ (∀ x, x ∈ ls.foldl putT B ↔ x ∈ B ∨ (x ∈ ls ∧ zeroT x = false)) ∧ (ls.foldl putT B).length ≤ B.length + ls.length := by
  induction ls with
  | nil => intro B h; exact ⟨h, fun x => by simp, by simp⟩
  | cons y ls ih =>
    intro B h
    simp only [List.foldl_cons]
    have hB : StrictT (putT B y) := by unfold putT; split; exact h; exact strict_insT h
    obtain ⟨h1, h2, h3⟩ := ih _ hB
    refine ⟨h1, fun x => ?_, ?_⟩
    · rw [h2]
      unfold putT
      cases hz : zeroT y
      · simp only [Bool.false_eq_true, if_false, mem_insT, List.mem_cons]
        constructor
        · rintro ((h | h) | ⟨h, h'⟩)
          · exact .inl h
          · subst h; exact .inr ⟨.inl rfl, hz⟩
          · exact .inr ⟨.inr h, h'⟩
        · rintro (h | ⟨h | h, h'⟩)
          · exact .inl (.inl h)
          · exact .inl (.inr h)
          · exact .inr ⟨h, h'⟩
      · simp only [if_true, List.mem_cons]
        constructor
        · rintro (h | ⟨h, h'⟩)
          · exact .inl h
          · exact .inr ⟨.inr h, h'⟩
        · rintro (h | ⟨h | h, h'⟩)
          · exact .inl h
          · subst h; rw [hz] at h'; cases h'
          · exact .inr ⟨h, h'⟩
    · have := putT_len B y
      simp only [List.length_cons]; omega
theorem locked_strict (ls : List TraceE) : StrictT (lockedL ls) := (foldPut ls [] List.Pairwise.nil).1
theorem locked_mem {ls : List TraceE} {x : TraceE} : x ∈ lockedL ls ↔ x ∈ ls ∧ zeroT x = false := by
  have := (foldPut ls [] List.Pairwise.nil).2.1 x
  unfold lockedL
  rw [this]; simp
theorem locked_len (ls : List TraceE) : (lockedL ls).length ≤ ls.length := by
  have := (foldPut ls [] List.Pairwise.nil).2.2
  unfold lockedL
  simp only [List.length_nil, Nat.zero_add] at this
  exact this
end Go.Proofs.Ytnjpmpelgigmjaa

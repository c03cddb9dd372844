/-
  Plain laws of chapter 34: lists alone, no program. Conditions stand in each theorem.
-/
import Derived.Test.YtnjpmpelgigmjaaC34Walk8
namespace Go.Proofs.Ytnjpmpelgigmjaa

theorem teq_iff {a b c d : Int} : teq a b c d = true ↔ a = c ∧ b = d := by simp [teq]
theorem teq_false {a b c d : Int} : teq a b c d = false ↔ ¬ (a = c ∧ b = d) := by simp [teq]; 

/-- x is y, or y with the lock t where y had none. -/
def StubE.LR (t : TraceE) (x y : StubE) : Prop := x = y ∨ (x = y.setLock t ∧ y.lockMachine = 0 ∧ y.lockSerial = 0)
def StubE.LRs (t : TraceE) (l S : List StubE) : Prop := l.length = S.length ∧ ∀ (k : Nat) (x y : StubE), l[k]? = some x → S[k]? = some y → StubE.LR t x y
theorem StubE.LR.is_ {t : TraceE} {x y : StubE} (h : StubE.LR t x y) (p q : Int) : isStub p q x = isStub p q y := by
  rcases h with rfl | ⟨rfl, _⟩ <;> rfl
theorem StubE.LRs.refl (t : TraceE) (S : List StubE) : StubE.LRs t S S := ⟨rfl, fun k x y hx hy => by rw [hx] at hy; injection hy with hy; exact .inl hy⟩
theorem StubE.LRs.get {t : TraceE} {l S : List StubE} (h : StubE.LRs t l S) {k : Nat} {y : StubE} (hy : S[k]? = some y) : ∃ x, l[k]? = some x ∧ StubE.LR t x y := by
  have hk : k < l.length := by rw [h.1]; exact (List.getElem?_eq_some_iff.1 hy).1
  exact ⟨l[k], List.getElem?_eq_getElem hk, h.2 k _ y (List.getElem?_eq_getElem hk) hy⟩
theorem StubE.LRs.get' {t : TraceE} {l S : List StubE} (h : StubE.LRs t l S) {k : Nat} {x : StubE} (hx : l[k]? = some x) : ∃ y, S[k]? = some y ∧ StubE.LR t x y := by
  have hk : k < S.length := by rw [← h.1]; exact (List.getElem?_eq_some_iff.1 hx).1
  exact ⟨S[k], List.getElem?_eq_getElem hk, h.2 k x _ hx (List.getElem?_eq_getElem hk)⟩
theorem StubE.LRs.noneTo {t : TraceE} {l S : List StubE} (h : StubE.LRs t l S) {p q : Int} {k : Nat} (hn : NoneTo (isStub p q) S k) : NoneTo (isStub p q) l k := fun j x hj hx => by
  obtain ⟨y, hy, hr⟩ := h.get' hx
  rw [hr.is_]; exact hn j y hj hy
/-- The entry that a need names in S, if there is one, has no lock. -/
def StubE.Free (S : List StubE) (n : NeedE) : Prop := ∀ (k : Nat) (y : StubE), S[k]? = some y → isStub n.peer n.number y = true → NoneTo (isStub n.peer n.number) S k → y.lockMachine = 0 ∧ y.lockSerial = 0
theorem StubE.LRs.step {t : TraceE} {l S : List StubE} (h : StubE.LRs t l S) (n : NeedE) (hf : StubE.Free S n) : StubE.LRs t (setAt (isStub n.peer n.number) (StubE.setLock t) l) S := by
  rcases idxOf_cases (isStub n.peer n.number) S with ⟨_, hno⟩ | ⟨k, y, _, hy, hp, hno⟩
  · rw [setAt_miss (by have := h.noneTo hno; rwa [h.1])]
    exact h
  · obtain ⟨x, hx, hr⟩ := h.get hy
    rw [setAt_hit hx (by rw [hr.is_]; exact hp) (h.noneTo hno)]
    have hz := hf k y hy hp hno
    refine ⟨by rw [List.length_set]; exact h.1, fun j x' y' hx' hy' => ?_⟩
    by_cases hj : j = k
    · subst hj
      rw [List.getElem?_set_self (List.getElem?_eq_some_iff.1 hx).1] at hx'
      rw [hy] at hy'
      injection hx' with hx'
      injection hy' with hy'
      subst hx' hy'
      refine .inr ⟨?_, hz⟩
      rcases hr with rfl | ⟨rfl, _⟩ <;> rfl
    · rw [List.getElem?_set_ne (fun e => hj e.symm)] at hx'
      exact h.2 j x' y' hx' hy'
theorem StubE.LRs.lock {t : TraceE} {S : List StubE} {ns : List NeedE} (hf : ∀ n ∈ ns, StubE.Free S n) : StubE.LRs t (lockStubs t ns S) S := by
  have key : ∀ (ns : List NeedE) (l : List StubE), (∀ n ∈ ns, StubE.Free S n) → StubE.LRs t l S → StubE.LRs t (lockStubs t ns l) S := by
    intro ns
    induction ns with
    | nil => intro l _ h; exact h
    | cons n ns ih => intro l hf h; exact ih _ (fun m hm => hf m (List.mem_cons_of_mem _ hm)) (h.step n (hf n (List.mem_cons_self ..)))
  exact key ns S hf (.refl t S)
/-- Aborting undoes locking. -/
theorem StubE.undone {t : TraceE} {S : List StubE} {ns : List NeedE} (hS : ∀ e ∈ S, teq e.lockMachine e.lockSerial t.machine t.serial = false) (hf : ∀ n ∈ ns, StubE.Free S n) : relStubs false t (lockStubs t ns S) = S := by
  have h := StubE.LRs.lock (t := t) hf
  unfold relStubs
  have one : ∀ x y, y ∈ S → StubE.LR t x y → StubE.rel false t x = y := by
    intro x y hy hr
    rcases hr with rfl | ⟨rfl, h1, h2⟩
    · simp [StubE.rel, hS _ hy]
    · cases y; simp only at h1 h2; subst h1 h2; simp [StubE.rel, StubE.setLock, teq]
  split
  · rename_i h0
    apply List.ext_getElem?
    intro i
    rcases Nat.lt_or_ge i S.length with hi | hi
    · obtain ⟨x, hx, hr⟩ := h.get (List.getElem?_eq_getElem hi)
      rw [hx, List.getElem?_eq_getElem hi]
      rcases hr with e | ⟨e, h1, h2⟩
      · rw [e]
      · rw [e]
        rw [teq_iff] at h0
        generalize S[i] = y at *
        cases y; simp only at h1 h2; subst h1 h2; simp [StubE.setLock, h0.1, h0.2]
    · rw [List.getElem?_eq_none hi, List.getElem?_eq_none (by rw [h.1]; exact hi)]
  · apply List.ext_getElem?
    intro i
    rcases Nat.lt_or_ge i S.length with hi | hi
    · obtain ⟨x, hx, hr⟩ := h.get (List.getElem?_eq_getElem hi)
      rw [List.getElem?_map, hx, List.getElem?_eq_getElem hi]
      exact congrArg some (one x _ (List.getElem_mem hi) hr)
    · rw [List.getElem?_eq_none hi, List.getElem?_eq_none (by rw [List.length_map, h.1]; exact hi)]
/-- After a release no entry has the trace's lock. -/
theorem StubE.rel_no {b : Bool} {t : TraceE} {l : List StubE} (h0 : teq t.machine t.serial 0 0 = false) : ∀ e ∈ relStubs b t l, teq e.lockMachine e.lockSerial t.machine t.serial = false := by
  intro e he
  unfold relStubs at he
  rw [h0] at he
  simp only [Bool.false_eq_true, if_false] at he
  obtain ⟨x, _, rfl⟩ := List.mem_map.1 he
  unfold StubE.rel
  cases hx : teq x.lockMachine x.lockSerial t.machine t.serial
  · simp [hx]
  · rw [teq_false] at h0
    simp only [if_true]
    rw [teq_false]
    exact fun h => h0 ⟨h.1.symm, h.2.symm⟩

/-- x is y, or y with the lock t where y had none. -/
def ScionE.LR (t : TraceE) (x y : ScionE) : Prop := x = y ∨ (x = y.setLock t ∧ y.lockMachine = 0 ∧ y.lockSerial = 0)
def ScionE.LRs (t : TraceE) (l S : List ScionE) : Prop := l.length = S.length ∧ ∀ (k : Nat) (x y : ScionE), l[k]? = some x → S[k]? = some y → ScionE.LR t x y
theorem ScionE.LR.is_ {t : TraceE} {x y : ScionE} (h : ScionE.LR t x y) (p q : Int) : isScion p q x = isScion p q y := by
  rcases h with rfl | ⟨rfl, _⟩ <;> rfl
theorem ScionE.LRs.refl (t : TraceE) (S : List ScionE) : ScionE.LRs t S S := ⟨rfl, fun k x y hx hy => by rw [hx] at hy; injection hy with hy; exact .inl hy⟩
theorem ScionE.LRs.get {t : TraceE} {l S : List ScionE} (h : ScionE.LRs t l S) {k : Nat} {y : ScionE} (hy : S[k]? = some y) : ∃ x, l[k]? = some x ∧ ScionE.LR t x y := by
  have hk : k < l.length := by rw [h.1]; exact (List.getElem?_eq_some_iff.1 hy).1
  exact ⟨l[k], List.getElem?_eq_getElem hk, h.2 k _ y (List.getElem?_eq_getElem hk) hy⟩
theorem ScionE.LRs.get' {t : TraceE} {l S : List ScionE} (h : ScionE.LRs t l S) {k : Nat} {x : ScionE} (hx : l[k]? = some x) : ∃ y, S[k]? = some y ∧ ScionE.LR t x y := by
  have hk : k < S.length := by rw [← h.1]; exact (List.getElem?_eq_some_iff.1 hx).1
  exact ⟨S[k], List.getElem?_eq_getElem hk, h.2 k x _ hx (List.getElem?_eq_getElem hk)⟩
theorem ScionE.LRs.noneTo {t : TraceE} {l S : List ScionE} (h : ScionE.LRs t l S) {p q : Int} {k : Nat} (hn : NoneTo (isScion p q) S k) : NoneTo (isScion p q) l k := fun j x hj hx => by
  obtain ⟨y, hy, hr⟩ := h.get' hx
  rw [hr.is_]; exact hn j y hj hy
/-- The entry that a need names in S, if there is one, has no lock. -/
def ScionE.Free (S : List ScionE) (n : NeedE) : Prop := ∀ (k : Nat) (y : ScionE), S[k]? = some y → isScion n.peer n.number y = true → NoneTo (isScion n.peer n.number) S k → y.lockMachine = 0 ∧ y.lockSerial = 0
theorem ScionE.LRs.step {t : TraceE} {l S : List ScionE} (h : ScionE.LRs t l S) (n : NeedE) (hf : ScionE.Free S n) : ScionE.LRs t (setAt (isScion n.peer n.number) (ScionE.setLock t) l) S := by
  rcases idxOf_cases (isScion n.peer n.number) S with ⟨_, hno⟩ | ⟨k, y, _, hy, hp, hno⟩
  · rw [setAt_miss (by have := h.noneTo hno; rwa [h.1])]
    exact h
  · obtain ⟨x, hx, hr⟩ := h.get hy
    rw [setAt_hit hx (by rw [hr.is_]; exact hp) (h.noneTo hno)]
    have hz := hf k y hy hp hno
    refine ⟨by rw [List.length_set]; exact h.1, fun j x' y' hx' hy' => ?_⟩
    by_cases hj : j = k
    · subst hj
      rw [List.getElem?_set_self (List.getElem?_eq_some_iff.1 hx).1] at hx'
      rw [hy] at hy'
      injection hx' with hx'
      injection hy' with hy'
      subst hx' hy'
      refine .inr ⟨?_, hz⟩
      rcases hr with rfl | ⟨rfl, _⟩ <;> rfl
    · rw [List.getElem?_set_ne (fun e => hj e.symm)] at hx'
      exact h.2 j x' y' hx' hy'
theorem ScionE.LRs.lock {t : TraceE} {S : List ScionE} {ns : List NeedE} (hf : ∀ n ∈ ns, ScionE.Free S n) : ScionE.LRs t (lockScions t ns S) S := by
  have key : ∀ (ns : List NeedE) (l : List ScionE), (∀ n ∈ ns, ScionE.Free S n) → ScionE.LRs t l S → ScionE.LRs t (lockScions t ns l) S := by
    intro ns
    induction ns with
    | nil => intro l _ h; exact h
    | cons n ns ih => intro l hf h; exact ih _ (fun m hm => hf m (List.mem_cons_of_mem _ hm)) (h.step n (hf n (List.mem_cons_self ..)))
  exact key ns S hf (.refl t S)
/-- Aborting undoes locking. -/
theorem ScionE.undone {t : TraceE} {S : List ScionE} {ns : List NeedE} (hS : ∀ e ∈ S, teq e.lockMachine e.lockSerial t.machine t.serial = false) (hf : ∀ n ∈ ns, ScionE.Free S n) : relScions false t (lockScions t ns S) = S := by
  have h := ScionE.LRs.lock (t := t) hf
  unfold relScions
  have one : ∀ x y, y ∈ S → ScionE.LR t x y → ScionE.rel false t x = y := by
    intro x y hy hr
    rcases hr with rfl | ⟨rfl, h1, h2⟩
    · simp [ScionE.rel, hS _ hy]
    · cases y; simp only at h1 h2; subst h1 h2; simp [ScionE.rel, ScionE.setLock, teq]
  split
  · rename_i h0
    apply List.ext_getElem?
    intro i
    rcases Nat.lt_or_ge i S.length with hi | hi
    · obtain ⟨x, hx, hr⟩ := h.get (List.getElem?_eq_getElem hi)
      rw [hx, List.getElem?_eq_getElem hi]
      rcases hr with e | ⟨e, h1, h2⟩
      · rw [e]
      · rw [e]
        rw [teq_iff] at h0
        generalize S[i] = y at *
        cases y; simp only at h1 h2; subst h1 h2; simp [ScionE.setLock, h0.1, h0.2]
    · rw [List.getElem?_eq_none hi, List.getElem?_eq_none (by rw [h.1]; exact hi)]
  · apply List.ext_getElem?
    intro i
    rcases Nat.lt_or_ge i S.length with hi | hi
    · obtain ⟨x, hx, hr⟩ := h.get (List.getElem?_eq_getElem hi)
      rw [List.getElem?_map, hx, List.getElem?_eq_getElem hi]
      exact congrArg some (one x _ (List.getElem_mem hi) hr)
    · rw [List.getElem?_eq_none hi, List.getElem?_eq_none (by rw [List.length_map, h.1]; exact hi)]
/-- After a release no entry has the trace's lock. -/
theorem ScionE.rel_no {b : Bool} {t : TraceE} {l : List ScionE} (h0 : teq t.machine t.serial 0 0 = false) : ∀ e ∈ relScions b t l, teq e.lockMachine e.lockSerial t.machine t.serial = false := by
  intro e he
  unfold relScions at he
  rw [h0] at he
  simp only [Bool.false_eq_true, if_false] at he
  obtain ⟨x, _, rfl⟩ := List.mem_map.1 he
  unfold ScionE.rel
  cases hx : teq x.lockMachine x.lockSerial t.machine t.serial
  · simp [hx]
  · rw [teq_false] at h0
    simp only [if_true]
    rw [teq_false]
    exact fun h => h0 ⟨h.1.symm, h.2.symm⟩

theorem free_of_check {c : ClaimV} {t : TraceE} {ep : Int} {S : List StubE} {N : List ScionE} {r : List Int} (h : checkB c t ep S N r = true) (hS : ∀ e ∈ S, teq e.lockMachine e.lockSerial t.machine t.serial = false) (hN : ∀ e ∈ N, teq e.lockMachine e.lockSerial t.machine t.serial = false) :
    (∀ n ∈ c.stubs, StubE.Free S n) ∧ ∀ n ∈ c.scions, ScionE.Free N n := by
  simp only [checkB, Bool.and_eq_true, List.all_eq_true] at h
  obtain ⟨_, _, hs, _, hn⟩ := h
  refine ⟨fun n hm k y hy hp hno => ?_, fun n hm k y hy hp hno => ?_⟩
  · have := hs n hm
    simp only [stubP, quietB, find_hit hy hp hno, quietE, freeB, Bool.and_eq_true, Bool.or_eq_true, hS y (List.mem_of_getElem? hy), Bool.false_eq_true, or_false] at this
    exact teq_iff.1 this.1.2.2
  · have := hn n hm
    simp only [scionP, scionB, find_hit hy hp hno, scionE, freeB, Bool.and_eq_true, Bool.or_eq_true, hN y (List.mem_of_getElem? hy), Bool.false_eq_true, or_false] at this
    exact teq_iff.1 this.1.2.2
end Go.Proofs.Ytnjpmpelgigmjaa

/-
  Plain laws of chapter 34: what locking and releasing do to the entry that a need names. Conditions stand in each theorem.
-/
import Derived.Test.YtnjpmpelgigmjaaC34Plain
namespace Go.Proofs.Ytnjpmpelgigmjaa

section
variable {α : Type} {p q : α → Bool} {g : α → α} {l : List α} {x : α}
theorem find_at (h : l.find? p = some x) : ∃ k : Nat, l[k]? = some x ∧ p x = true ∧ NoneTo p l k := by
  rcases idxOf_cases p l with ⟨_, hno⟩ | ⟨k, y, _, hy, hp, hno⟩
  · rw [find_miss hno] at h; cases h
  · rw [find_hit hy hp hno] at h; injection h with h; subst h
    exact ⟨k, hy, hp, hno⟩
theorem noneTo_set (hg : ∀ y, p (g y) = p y) {k j : Nat} {z : α} (hz : l[j]? = some z) (hno : NoneTo p l k) : NoneTo p (l.set j (g z)) k := fun i y hi hy => by
  by_cases hij : i = j
  · subst hij
    rw [List.getElem?_set_self (List.getElem?_eq_some_iff.1 hz).1] at hy
    injection hy with hy
    subst hy
    rw [hg]; exact hno i z hi hz
  · rw [List.getElem?_set_ne (fun e => hij e.symm)] at hy
    exact hno i y hi hy
theorem setAt_form (q : α → Bool) (g : α → α) (l : List α) : setAt q g l = l ∨ ∃ (k : Nat) (z : α), l[k]? = some z ∧ q z = true ∧ NoneTo q l k ∧ setAt q g l = l.set k (g z) := by
  rcases idxOf_cases q l with ⟨_, hno⟩ | ⟨k, y, _, hy, hp, hno⟩
  · exact .inl (setAt_miss hno)
  · exact .inr ⟨k, y, hy, hp, hno, setAt_hit hy hp hno⟩
theorem find_setAt (hg : ∀ y, p (g y) = p y) (h : l.find? p = some x) : (setAt q g l).find? p = some x ∨ (setAt q g l).find? p = some (g x) := by
  obtain ⟨k, hx, hp, hno⟩ := find_at h
  rcases setAt_form q g l with e | ⟨j, z, hz, _, _, e⟩
  · rw [e]; exact .inl h
  · rw [e]
    by_cases hjk : j = k
    · subst hjk
      rw [hx] at hz; injection hz with hz; subst hz
      exact .inr (find_hit (List.getElem?_set_self (List.getElem?_eq_some_iff.1 hx).1) (by rw [hg]; exact hp) (noneTo_set hg hx hno))
    · exact .inl (find_hit (by rw [List.getElem?_set_ne hjk]; exact hx) hp (noneTo_set hg hz hno))
theorem find_setAt_self (hg : ∀ y, p (g y) = p y) (h : l.find? p = some x) : (setAt p g l).find? p = some (g x) := by
  obtain ⟨k, hx, hp, hno⟩ := find_at h
  rw [setAt_hit hx hp hno]
  exact find_hit (List.getElem?_set_self (List.getElem?_eq_some_iff.1 hx).1) (by rw [hg]; exact hp) (noneTo_set hg hx hno)
theorem find_setAt_none (hg : ∀ y, p (g y) = p y) (h : l.find? p = none) : (setAt q g l).find? p = none := by
  rcases setAt_form q g l with e | ⟨j, z, hz, _, _, e⟩
  · rw [e]; exact h
  · rw [e, List.find?_eq_none]
    intro y hy
    rcases List.mem_or_eq_of_mem_set hy with hy | rfl
    · exact List.find?_eq_none.1 h y hy
    · rw [hg]; exact List.find?_eq_none.1 h z (List.mem_of_getElem? hz)
theorem setAt_id (h : ∀ x, l.find? p = some x → g x = x) : setAt p g l = l := by
  rcases setAt_form p g l with e | ⟨k, z, hz, hq, hno, e⟩
  · exact e
  · rw [e, h z (find_hit hz hq hno)]
    apply List.ext_getElem?
    intro i
    by_cases hik : k = i
    · subst hik; rw [List.getElem?_set_self (List.getElem?_eq_some_iff.1 hz).1, hz]
    · rw [List.getElem?_set_ne hik]
end

theorem StubE.setLock_is (t : TraceE) (p q : Int) (y : StubE) : isStub p q (y.setLock t) = isStub p q y := rfl
theorem StubE.setLock_twice (t : TraceE) (y : StubE) : (y.setLock t).setLock t = y.setLock t := rfl
theorem StubE.rel_is (b : Bool) (t : TraceE) (p q : Int) (y : StubE) : isStub p q (y.rel b t) = isStub p q y := by unfold StubE.rel; split <;> rfl
theorem StubE.lock_find {t : TraceE} {p q : Int} (ns : List NeedE) : ∀ {l : List StubE} {x : StubE}, l.find? (isStub p q) = some x → (lockStubs t ns l).find? (isStub p q) = some x ∨ (lockStubs t ns l).find? (isStub p q) = some (x.setLock t) := by
  induction ns with
  | nil => intro l x h; exact .inl h
  | cons n ns ih =>
    intro l x h
    rcases find_setAt (q := isStub n.peer n.number) (g := StubE.setLock t) (fun y => StubE.setLock_is t p q y) h with h | h
    · exact ih h
    · rcases ih h with h | h
      · exact .inr h
      · exact .inr h
theorem StubE.lock_find_none {t : TraceE} {p q : Int} (ns : List NeedE) : ∀ {l : List StubE}, l.find? (isStub p q) = none → (lockStubs t ns l).find? (isStub p q) = none := by
  induction ns with
  | nil => intro l h; exact h
  | cons n ns ih => intro l h; exact ih (find_setAt_none (q := isStub n.peer n.number) (g := StubE.setLock t) (fun y => StubE.setLock_is t p q y) h)
theorem StubE.lock_find_mem {t : TraceE} {n : NeedE} (ns : List NeedE) : ∀ {l : List StubE} {x : StubE}, n ∈ ns → l.find? (isStub n.peer n.number) = some x → (lockStubs t ns l).find? (isStub n.peer n.number) = some (x.setLock t) := by
  induction ns with
  | nil => intro l x hm h; cases hm
  | cons m ns ih =>
    intro l x hm h
    rcases List.mem_cons.1 hm with rfl | hm
    · have h1 := find_setAt_self (g := StubE.setLock t) (fun y => StubE.setLock_is t n.peer n.number y) h
      rcases StubE.lock_find (t := t) ns h1 with h | h
      · exact h
      · exact h
    · rcases find_setAt (q := isStub m.peer m.number) (g := StubE.setLock t) (fun y => StubE.setLock_is t n.peer n.number y) h with h | h
      · exact ih hm h
      · have h2 := ih (x := x.setLock t) hm h
        exact h2
theorem StubE.lock_twice (t : TraceE) (ns : List NeedE) (S : List StubE) : lockStubs t ns (lockStubs t ns S) = lockStubs t ns S := by
  have key : ∀ ms : List NeedE, (∀ m ∈ ms, m ∈ ns) → lockStubs t ms (lockStubs t ns S) = lockStubs t ns S := by
    intro ms
    induction ms with
    | nil => intro _; rfl
    | cons m ms ih =>
      intro hm
      show lockStubs t ms (setAt (isStub m.peer m.number) (StubE.setLock t) (lockStubs t ns S)) = _
      rw [setAt_id fun x hx => ?_]
      · exact ih fun k hk => hm k (List.mem_cons_of_mem _ hk)
      · cases hf : S.find? (isStub m.peer m.number) with
        | none => rw [StubE.lock_find_none ns hf] at hx; cases hx
        | some y =>
          rw [StubE.lock_find_mem ns (hm m (List.mem_cons_self ..)) hf] at hx
          injection hx with hx
          subst hx
          rfl
  exact key ns fun _ h => h
theorem StubE.rel_find {b : Bool} {t : TraceE} {p q : Int} {l : List StubE} {x : StubE} (h0 : teq t.machine t.serial 0 0 = false) (h : l.find? (isStub p q) = some x) : (relStubs b t l).find? (isStub p q) = some (x.rel b t) := by
  unfold relStubs
  rw [h0]
  simp only [Bool.false_eq_true, if_false]
  rw [List.find?_map, show (isStub p q ∘ StubE.rel b t) = isStub p q from funext fun y => StubE.rel_is b t p q y, h]
  rfl

theorem ScionE.setLock_is (t : TraceE) (p q : Int) (y : ScionE) : isScion p q (y.setLock t) = isScion p q y := rfl
theorem ScionE.setLock_twice (t : TraceE) (y : ScionE) : (y.setLock t).setLock t = y.setLock t := rfl
theorem ScionE.rel_is (b : Bool) (t : TraceE) (p q : Int) (y : ScionE) : isScion p q (y.rel b t) = isScion p q y := by unfold ScionE.rel; split <;> rfl
theorem ScionE.lock_find {t : TraceE} {p q : Int} (ns : List NeedE) : ∀ {l : List ScionE} {x : ScionE}, l.find? (isScion p q) = some x → (lockScions t ns l).find? (isScion p q) = some x ∨ (lockScions t ns l).find? (isScion p q) = some (x.setLock t) := by
  induction ns with
  | nil => intro l x h; exact .inl h
  | cons n ns ih =>
    intro l x h
    rcases find_setAt (q := isScion n.peer n.number) (g := ScionE.setLock t) (fun y => ScionE.setLock_is t p q y) h with h | h
    · exact ih h
    · rcases ih h with h | h
      · exact .inr h
      · exact .inr h
theorem ScionE.lock_find_none {t : TraceE} {p q : Int} (ns : List NeedE) : ∀ {l : List ScionE}, l.find? (isScion p q) = none → (lockScions t ns l).find? (isScion p q) = none := by
  induction ns with
  | nil => intro l h; exact h
  | cons n ns ih => intro l h; exact ih (find_setAt_none (q := isScion n.peer n.number) (g := ScionE.setLock t) (fun y => ScionE.setLock_is t p q y) h)
theorem ScionE.lock_find_mem {t : TraceE} {n : NeedE} (ns : List NeedE) : ∀ {l : List ScionE} {x : ScionE}, n ∈ ns → l.find? (isScion n.peer n.number) = some x → (lockScions t ns l).find? (isScion n.peer n.number) = some (x.setLock t) := by
  induction ns with
  | nil => intro l x hm h; cases hm
  | cons m ns ih =>
    intro l x hm h
    rcases List.mem_cons.1 hm with rfl | hm
    · have h1 := find_setAt_self (g := ScionE.setLock t) (fun y => ScionE.setLock_is t n.peer n.number y) h
      rcases ScionE.lock_find (t := t) ns h1 with h | h
      · exact h
      · exact h
    · rcases find_setAt (q := isScion m.peer m.number) (g := ScionE.setLock t) (fun y => ScionE.setLock_is t n.peer n.number y) h with h | h
      · exact ih hm h
      · have h2 := ih (x := x.setLock t) hm h
        exact h2
theorem ScionE.lock_twice (t : TraceE) (ns : List NeedE) (S : List ScionE) : lockScions t ns (lockScions t ns S) = lockScions t ns S := by
  have key : ∀ ms : List NeedE, (∀ m ∈ ms, m ∈ ns) → lockScions t ms (lockScions t ns S) = lockScions t ns S := by
    intro ms
    induction ms with
    | nil => intro _; rfl
    | cons m ms ih =>
      intro hm
      show lockScions t ms (setAt (isScion m.peer m.number) (ScionE.setLock t) (lockScions t ns S)) = _
      rw [setAt_id fun x hx => ?_]
      · exact ih fun k hk => hm k (List.mem_cons_of_mem _ hk)
      · cases hf : S.find? (isScion m.peer m.number) with
        | none => rw [ScionE.lock_find_none ns hf] at hx; cases hx
        | some y =>
          rw [ScionE.lock_find_mem ns (hm m (List.mem_cons_self ..)) hf] at hx
          injection hx with hx
          subst hx
          rfl
  exact key ns fun _ h => h
theorem ScionE.rel_find {b : Bool} {t : TraceE} {p q : Int} {l : List ScionE} {x : ScionE} (h0 : teq t.machine t.serial 0 0 = false) (h : l.find? (isScion p q) = some x) : (relScions b t l).find? (isScion p q) = some (x.rel b t) := by
  unfold relScions
  rw [h0]
  simp only [Bool.false_eq_true, if_false]
  rw [List.find?_map, show (isScion p q ∘ ScionE.rel b t) = isScion p q from funext fun y => ScionE.rel_is b t p q y, h]
  rfl

theorem check_iff {c : ClaimV} {t : TraceE} {ep : Int} {S : List StubE} {N : List ScionE} {r : List Int} : checkB c t ep S N r = true ↔
    teq t.machine t.serial 0 0 = false ∧ c.epoch = ep ∧ (∀ n ∈ c.stubs, quietB n t S = true ∧ arrivedB n.peer n.stamp r = true) ∧ (∀ n ∈ c.checks, quietB n t S = true) ∧ ∀ n ∈ c.scions, scionB n t N = true ∧ arrivedB n.peer n.stamp r = true := by
  simp only [checkB, Bool.and_eq_true, List.all_eq_true, Bool.not_eq_true', beq_iff_eq, stubP, scionP]
theorem quiet_iff {n : NeedE} {t : TraceE} {S : List StubE} : quietB n t S = true ↔ ∃ e, S.find? (isStub n.peer n.number) = some e ∧ e.touched = false ∧ e.dead = false ∧ (teq e.lockMachine e.lockSerial 0 0 = true ∨ teq e.lockMachine e.lockSerial t.machine t.serial = true) := by
  unfold quietB
  cases S.find? (isStub n.peer n.number) <;> simp [quietE, freeB]
theorem scion_iff {n : NeedE} {t : TraceE} {S : List ScionE} : scionB n t S = true ↔ ∃ e, S.find? (isScion n.peer n.number) = some e ∧ e.touched = false ∧ e.garbage = false ∧ (teq e.lockMachine e.lockSerial 0 0 = true ∨ teq e.lockMachine e.lockSerial t.machine t.serial = true) := by
  unfold scionB
  cases S.find? (isScion n.peer n.number) <;> simp [scionE, freeB]
theorem teq_self (a b : Int) : teq a b a b = true := by simp [teq]

/-- A claim that holds still holds for the trace that has locked it. -/
theorem check_locked {c : ClaimV} {t : TraceE} {ep : Int} {S : List StubE} {N : List ScionE} {r : List Int} (h : checkB c t ep S N r = true) : checkB c t ep (lockStubs t c.stubs S) (lockScions t c.scions N) r = true := by
  rw [check_iff] at h ⊢
  obtain ⟨h0, h1, h2, h3, h4⟩ := h
  have q : ∀ n, quietB n t S = true → quietB n t (lockStubs t c.stubs S) = true := fun n hn => by
    obtain ⟨e, he, a, b, d⟩ := quiet_iff.1 hn
    rcases StubE.lock_find (t := t) c.stubs he with h | h
    · exact quiet_iff.2 ⟨e, h, a, b, d⟩
    · exact quiet_iff.2 ⟨_, h, a, b, .inr (teq_self _ _)⟩
  refine ⟨h0, h1, fun n hn => ⟨q n (h2 n hn).1, (h2 n hn).2⟩, fun n hn => q n (h3 n hn), fun n hn => ⟨?_, (h4 n hn).2⟩⟩
  obtain ⟨e, he, a, b, d⟩ := scion_iff.1 (h4 n hn).1
  rcases ScionE.lock_find (t := t) c.scions he with h | h
  · exact scion_iff.2 ⟨e, h, a, b, d⟩
  · exact scion_iff.2 ⟨_, h, a, b, .inr (teq_self _ _)⟩
/-- .. but for no other trace, if it names something. -/
theorem check_other {c : ClaimV} {t u : TraceE} {ep : Int} {S : List StubE} {N : List ScionE} {r : List Int} (h : checkB c t ep S N r = true) (hne : teq t.machine t.serial u.machine u.serial = false) (hs : ¬ (c.stubs = [] ∧ c.scions = [])) : checkB c u ep (lockStubs t c.stubs S) (lockScions t c.scions N) r = false := by
  rw [check_iff] at h
  obtain ⟨h0, h1, h2, h3, h4⟩ := h
  cases hk : checkB c u ep (lockStubs t c.stubs S) (lockScions t c.scions N) r
  · rfl
  · exfalso
    rw [check_iff] at hk
    obtain ⟨_, _, k2, _, k4⟩ := hk
    cases hst : c.stubs with
    | cons n l =>
      have hn : n ∈ c.stubs := by rw [hst]; exact List.mem_cons_self ..
      obtain ⟨e, he, _⟩ := quiet_iff.1 (h2 n hn).1
      obtain ⟨e', he', _, _, hf⟩ := quiet_iff.1 (k2 n hn).1
      rw [StubE.lock_find_mem (t := t) c.stubs hn he] at he'
      injection he' with he'
      subst he'
      simp only [StubE.setLock, h0, hne, Bool.false_eq_true, or_self] at hf
    | nil =>
      cases hsc : c.scions with
      | nil => exact hs ⟨hst, hsc⟩
      | cons n l =>
        have hn : n ∈ c.scions := by rw [hsc]; exact List.mem_cons_self ..
        obtain ⟨e, he, _⟩ := scion_iff.1 (h4 n hn).1
        obtain ⟨e', he', _, _, hf⟩ := scion_iff.1 (k4 n hn).1
        rw [ScionE.lock_find_mem (t := t) c.scions hn he] at he'
        injection he' with he'
        subst he'
        simp only [ScionE.setLock, h0, hne, Bool.false_eq_true, or_self] at hf
/-- A claim that held for two traces holds for the second one when the first has locked and aborted. -/
theorem check_aborted {c : ClaimV} {t u : TraceE} {ep : Int} {S : List StubE} {N : List ScionE} {r : List Int} (h : checkB c t ep S N r = true) (hu : checkB c u ep S N r = true) (hne : teq t.machine t.serial u.machine u.serial = false) :
    checkB c u ep (relStubs false t (lockStubs t c.stubs S)) (relScions false t (lockScions t c.scions N)) r = true := by
  rw [check_iff] at h hu ⊢
  obtain ⟨h0, h1, h2, h3, h4⟩ := h
  obtain ⟨u0, u1, u2, u3, u4⟩ := hu
  have zero : ∀ a b : Int, (teq a b 0 0 = true ∨ teq a b t.machine t.serial = true) → (teq a b 0 0 = true ∨ teq a b u.machine u.serial = true) → a = 0 ∧ b = 0 := by
    intro a b x y
    rcases x with x | x
    · exact teq_iff.1 x
    · rcases y with y | y
      · exact teq_iff.1 y
      · rw [teq_iff] at x y
        rw [teq_false] at hne
        exact absurd ⟨by omega, by omega⟩ hne
  have q : ∀ n, quietB n t S = true → quietB n u S = true → quietB n u (relStubs false t (lockStubs t c.stubs S)) = true := fun n hn hm => by
    obtain ⟨e, he, a, b, d⟩ := quiet_iff.1 hn
    obtain ⟨e', he', _, _, d'⟩ := quiet_iff.1 hm
    rw [he] at he'; injection he' with he'; subst he'
    obtain ⟨z1, z2⟩ := zero _ _ d d'
    rcases StubE.lock_find (t := t) c.stubs he with hh | hh
    · refine quiet_iff.2 ⟨_, StubE.rel_find h0 hh, ?_, ?_, .inl ?_⟩ <;> (unfold StubE.rel; split <;> simp [a, b, z1, z2, teq])
    · refine quiet_iff.2 ⟨_, StubE.rel_find h0 hh, ?_, ?_, .inl ?_⟩ <;> simp [StubE.rel, StubE.setLock, a, b, teq]
  refine ⟨u0, u1, fun n hn => ⟨q n (h2 n hn).1 (u2 n hn).1, (u2 n hn).2⟩, fun n hn => q n (h3 n hn) (u3 n hn), fun n hn => ⟨?_, (u4 n hn).2⟩⟩
  obtain ⟨e, he, a, b, d⟩ := scion_iff.1 (h4 n hn).1
  obtain ⟨e', he', _, _, d'⟩ := scion_iff.1 (u4 n hn).1
  rw [he] at he'; injection he' with he'; subst he'
  obtain ⟨z1, z2⟩ := zero _ _ d d'
  rcases ScionE.lock_find (t := t) c.scions he with hh | hh
  · refine scion_iff.2 ⟨_, ScionE.rel_find h0 hh, ?_, ?_, .inl ?_⟩ <;> (unfold ScionE.rel; split <;> simp [a, b, z1, z2, teq])
  · refine scion_iff.2 ⟨_, ScionE.rel_find h0 hh, ?_, ?_, .inl ?_⟩ <;> simp [ScionE.rel, ScionE.setLock, a, b, teq]
end Go.Proofs.Ytnjpmpelgigmjaa

/-
  What the traces that have locks become by locking, committing and aborting: plain Lean. Conditions stand in each theorem.
-/
import Derived.Test.YtnjpmpelgigmjaaC34Both
import Derived.Test.YtnjpmpelgigmjaaC34RefLocked
import Derived.Test.YtnjpmpelgigmjaaC34Walk9
import Derived.Test.YtnjpmpelgigmjaaC34Plain2
namespace Go.Proofs.Ytnjpmpelgigmjaa
def idxIs {α : Type} (is_ : Int → Int → α → Bool) (l : List α) (n : NeedE) : Bool := decide (0 ≤ idxOf (is_ n.peer n.number) l)
def namedAny (c : List NeedE) (d : List NeedE) (S : List StubE) (N : List ScionE) : Bool := c.any (idxIs isStub S) || d.any (idxIs isScion N)
def hasT (t : TraceE) (l : List TraceE) : Bool := l.any fun x => teq x.machine x.serial t.machine t.serial
theorem hasT_iff {t : TraceE} {l : List TraceE} : hasT t l = true ↔ t ∈ l := by
  unfold hasT
  rw [List.any_eq_true]
  constructor
  · rintro ⟨x, hx, h⟩
    rw [teq_dec, decide_eq_true_eq] at h
    subst h; exact hx
  · intro h
    exact ⟨t, h, by rw [teq_dec]; simp⟩
theorem idx_find {α : Type} {p : α → Bool} {l : List α} (h : 0 ≤ idxOf p l) : ∃ x, l.find? p = some x := by
  rcases idxOf_cases p l with ⟨hi, _⟩ | ⟨k, x, _, hx, hp, hno⟩
  · rw [hi] at h; omega
  · exact ⟨x, find_hit hx hp hno⟩
theorem named_has {t : TraceE} {c d : List NeedE} {S : List StubE} {N : List ScionE} (h : namedAny c d S N = true) (ht : zeroT t = false) : t ∈ lockedL (locksOf (lockStubs t c S) (lockScions t d N)) := by
  rw [locked_mem]
  refine ⟨?_, ht⟩
  unfold locksOf
  rw [List.mem_append]
  unfold namedAny at h
  rw [Bool.or_eq_true, List.any_eq_true, List.any_eq_true] at h
  rcases h with ⟨n, hn, h⟩ | ⟨n, hn, h⟩
  · left
    obtain ⟨x, hx⟩ := idx_find (of_decide_eq_true h)
    have := StubE.lock_find_mem (t := t) c hn hx
    exact List.mem_map.2 ⟨_, List.mem_of_find?_eq_some this, rfl⟩
  · right
    obtain ⟨x, hx⟩ := idx_find (of_decide_eq_true h)
    have := ScionE.lock_find_mem (t := t) d hn hx
    exact List.mem_map.2 ⟨_, List.mem_of_find?_eq_some this, rfl⟩
theorem zeroT_dec (t : TraceE) : zeroT t = decide (t = ⟨0, 0⟩) := teq_dec t ⟨0, 0⟩
theorem StubE.rel_locks {b : Bool} {t : TraceE} {l : List StubE} {x : TraceE} (hx : zeroT x = false) : x ∈ (relStubs b t l).map lockS ↔ x ∈ l.map lockS ∧ x ≠ t := by
  have hne : x ≠ ⟨0, 0⟩ := fun e => by rw [zeroT_dec] at hx; simp [e] at hx
  have key : ∀ e : StubE, (lockS (e.rel0 b t) = x) ↔ (lockS e = x ∧ x ≠ t) := by
    intro e
    have h1 : teq t.machine t.serial 0 0 = decide (t = ⟨0, 0⟩) := teq_dec t ⟨0, 0⟩
    have h2 : teq e.lockMachine e.lockSerial t.machine t.serial = decide (lockS e = t) := teq_dec (lockS e) t
    unfold StubE.rel0 StubE.rel
    rw [h1, h2]
    by_cases ht : t = ⟨0, 0⟩
    · simp only [ht, decide_true, if_true]
      constructor
      · intro h; exact ⟨h, hne⟩
      · exact fun h => h.1
    · simp only [ht, decide_false, Bool.false_eq_true, if_false]
      by_cases hl : lockS e = t
      · simp only [hl, decide_true, if_true]
        constructor
        · intro h; exact absurd h.symm hne
        · intro h; exact absurd h.1.symm h.2
      · simp only [hl, decide_false, Bool.false_eq_true, if_false]
        constructor
        · intro h; exact ⟨h, fun e' => hl (h.trans e')⟩
        · exact fun h => h.1
  rw [relStubs_map, List.map_map, List.mem_map, List.mem_map]
  constructor
  · rintro ⟨e, he, h⟩
    have := (key e).1 h
    exact ⟨⟨e, he, this.1⟩, this.2⟩
  · rintro ⟨⟨e, he, h⟩, h'⟩
    exact ⟨e, he, (key e).2 ⟨h, h'⟩⟩
theorem ScionE.rel_locks {b : Bool} {t : TraceE} {l : List ScionE} {x : TraceE} (hx : zeroT x = false) : x ∈ (relScions b t l).map lockN ↔ x ∈ l.map lockN ∧ x ≠ t := by
  have hne : x ≠ ⟨0, 0⟩ := fun e => by rw [zeroT_dec] at hx; simp [e] at hx
  have key : ∀ e : ScionE, (lockN (e.rel0 b t) = x) ↔ (lockN e = x ∧ x ≠ t) := by
    intro e
    have h1 : teq t.machine t.serial 0 0 = decide (t = ⟨0, 0⟩) := teq_dec t ⟨0, 0⟩
    have h2 : teq e.lockMachine e.lockSerial t.machine t.serial = decide (lockN e = t) := teq_dec (lockN e) t
    unfold ScionE.rel0 ScionE.rel
    rw [h1, h2]
    by_cases ht : t = ⟨0, 0⟩
    · simp only [ht, decide_true, if_true]
      constructor
      · intro h; exact ⟨h, hne⟩
      · exact fun h => h.1
    · simp only [ht, decide_false, Bool.false_eq_true, if_false]
      by_cases hl : lockN e = t
      · simp only [hl, decide_true, if_true]
        constructor
        · intro h; exact absurd h.symm hne
        · intro h; exact absurd h.1.symm h.2
      · simp only [hl, decide_false, Bool.false_eq_true, if_false]
        constructor
        · intro h; exact ⟨h, fun e' => hl (h.trans e')⟩
        · exact fun h => h.1
  rw [relScions_map, List.map_map, List.mem_map, List.mem_map]
  constructor
  · rintro ⟨e, he, h⟩
    have := (key e).1 h
    exact ⟨⟨e, he, this.1⟩, this.2⟩
  · rintro ⟨⟨e, he, h⟩, h'⟩
    exact ⟨e, he, (key e).2 ⟨h, h'⟩⟩
/-- After Commit or Abort: the trace is gone, the others are there. -/
theorem locked_after (b : Bool) (t : TraceE) (S : List StubE) (N : List ScionE) : lockedL (locksOf (relStubs b t S) (relScions b t N)) = (lockedL (locksOf S N)).filter fun x => x != t := by
  refine strict_unique (locked_strict _) ((locked_strict _).filter _) fun x => ?_
  rw [locked_mem, List.mem_filter, locked_mem]
  cases hz : zeroT x
  · simp only [locksOf, List.mem_append, StubE.rel_locks hz, ScionE.rel_locks hz, bne_iff_ne, ne_eq, and_true]
    constructor
    · rintro (⟨h, h'⟩ | ⟨h, h'⟩)
      · exact ⟨.inl h, h'⟩
      · exact ⟨.inr h, h'⟩
    · rintro ⟨h | h, h'⟩
      · exact .inl ⟨h, h'⟩
      · exact .inr ⟨h, h'⟩
  · simp
theorem locked_gone {b : Bool} {t : TraceE} {S : List StubE} {N : List ScionE} {x : TraceE} (h : x ∈ lockedL (locksOf (relStubs b t S) (relScions b t N))) : teq x.machine x.serial t.machine t.serial = false := by
  rw [locked_after, List.mem_filter] at h
  rw [teq_dec]
  simpa using h.2
theorem locked_after_len (b : Bool) (t : TraceE) (S : List StubE) (N : List ScionE) : (lockedL (locksOf (relStubs b t S) (relScions b t N))).length = if hasT t (lockedL (locksOf S N)) then (lockedL (locksOf S N)).length - 1 else (lockedL (locksOf S N)).length := by
  rw [locked_after, ← (locked_strict (locksOf S N)).nodup.erase_eq_filter]
  split
  · rename_i h; rw [List.length_erase_of_mem (hasT_iff.1 h)]
  · rename_i h
    rw [List.erase_of_not_mem (fun h' => h (hasT_iff.2 h'))]
end Go.Proofs.Ytnjpmpelgigmjaa

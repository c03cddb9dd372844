/-
  Plain laws of chapter 34: what locking and committing make of each entry, if the trace had no locks. Conditions stand in each theorem.
-/
import Derived.Test.YtnjpmpelgigmjaaC34Plain2
namespace Go.Proofs.Ytnjpmpelgigmjaa

section
variable {α : Type} {p : α → Bool} {g : α → α} {l l' : List α}
theorem findIdx_map (p : α → Bool) (l : List α) : l.findIdx? p = (l.map p).findIdx? id := by
  induction l with
  | nil => rfl
  | cons x l ih => simp only [List.findIdx?_cons, List.map_cons, id_eq, ih]
theorem idxOf_same (h : l.map p = l'.map p) : idxOf p l = idxOf p l' := by
  unfold idxOf; rw [findIdx_map p l, findIdx_map p l', h]
theorem setAt_map {q : α → Bool} (hg : ∀ y, p (g y) = p y) : (setAt q g l).map p = l.map p := by
  rcases setAt_form q g l with e | ⟨k, z, hz, _, _, e⟩
  · rw [e]
  · rw [e, List.map_set, hg]
    apply List.ext_getElem?
    intro i
    by_cases hik : k = i
    · subst hik; rw [List.getElem?_set_self (by simpa using (List.getElem?_eq_some_iff.1 hz).1)]; simp [hz]
    · rw [List.getElem?_set_ne hik]
theorem setAt_get {i : Nat} : (setAt p g l)[i]? = (l[i]?).map fun x => if idxOf p l = (i : Int) then g x else x := by
  rcases idxOf_cases p l with ⟨hi, hno⟩ | ⟨k, y, hi, hy, hp, hno⟩
  · rw [setAt_miss hno]
    have : ¬ (idxOf p l = (i : Int)) := by omega
    simp [this]
  · rw [setAt_hit hy hp hno]
    by_cases hik : k = i
    · subst hik; rw [List.getElem?_set_self (List.getElem?_eq_some_iff.1 hy).1, hy]; simp [hi]
    · have : ¬ (idxOf p l = (i : Int)) := by omega
      rw [List.getElem?_set_ne hik]; simp [this]
end

/-- The entry with the index i of S, condemned if one of the needs names it. -/
def StubE.hit (S : List StubE) (i : Nat) (n : NeedE) : Bool := idxOf (isStub n.peer n.number) S == (i : Int)
def StubE.cond (x : StubE) : StubE := { x with dead := true, lockMachine := 0, lockSerial := 0 }
def StubE.want (S : List StubE) (ns : List NeedE) (i : Nat) (x : StubE) : StubE := if ns.any (StubE.hit S i) then x.cond else x
theorem StubE.want_nil {S : List StubE} {i : Nat} {x : StubE} : StubE.want S [] i x = x := rfl
theorem StubE.want_snoc {S : List StubE} {ns : List NeedE} {n : NeedE} {i : Nat} {x : StubE} : StubE.want S (ns ++ [n]) i x = if StubE.hit S i n then (StubE.want S ns i x).cond else StubE.want S ns i x := by
  unfold StubE.want
  cases h1 : ns.any (StubE.hit S i) <;> cases h2 : StubE.hit S i n <;> simp [h1, h2, StubE.cond]
theorem StubE.lock_get {t : TraceE} {i : Nat} (ns : List NeedE) : ∀ (l : List StubE), (lockStubs t ns l)[i]? = (l[i]?).map fun x => if ns.any (StubE.hit l i) then x.setLock t else x := by
  induction ns with
  | nil => intro l; simp [lockStubs]
  | cons n ns ih =>
    intro l
    have e : ∀ m, StubE.hit (setAt (isStub n.peer n.number) (StubE.setLock t) l) i m = StubE.hit l i m := fun m => by
      unfold StubE.hit
      rw [idxOf_same (l' := l)]
      exact setAt_map (fun y => rfl)
    show (lockStubs t ns (setAt (isStub n.peer n.number) (StubE.setLock t) l))[i]? = _
    rw [ih, setAt_get, funext e]
    cases l[i]? with
    | none => rfl
    | some x =>
      have ha : (n :: ns).any (StubE.hit l i) = (StubE.hit l i n || ns.any (StubE.hit l i)) := rfl
      rw [Option.map_some, Option.map_some, Option.map_some, ha]
      by_cases h : idxOf (isStub n.peer n.number) l = (i : Int)
      · have h' : StubE.hit l i n = true := by simpa [StubE.hit] using h
        simp only [h, if_true, h', Bool.true_or]
        split <;> rfl
      · have h' : StubE.hit l i n = false := by simpa [StubE.hit] using h
        rw [if_neg h]
        simp only [h', Bool.false_or]
theorem StubE.condemned {t : TraceE} {S : List StubE} {ns : List NeedE} (h0 : teq t.machine t.serial 0 0 = false) (hS : ∀ e ∈ S, teq e.lockMachine e.lockSerial t.machine t.serial = false) {i : Nat} {x : StubE} (hx : S[i]? = some x) :
    (relStubs true t (lockStubs t ns S))[i]? = some (StubE.want S ns i x) := by
  unfold relStubs
  rw [h0]
  simp only [Bool.false_eq_true, if_false]
  rw [List.getElem?_map, StubE.lock_get, hx]
  simp only [Option.map_some, StubE.want]
  have hn := hS x (List.mem_of_getElem? hx)
  split
  · simp [StubE.rel, StubE.setLock, StubE.cond, teq_self]
  · simp [StubE.rel, hn]

/-- The entry with the index i of S, condemned if one of the needs names it. -/
def ScionE.hit (S : List ScionE) (i : Nat) (n : NeedE) : Bool := idxOf (isScion n.peer n.number) S == (i : Int)
def ScionE.cond (x : ScionE) : ScionE := { x with garbage := true, lockMachine := 0, lockSerial := 0 }
def ScionE.want (S : List ScionE) (ns : List NeedE) (i : Nat) (x : ScionE) : ScionE := if ns.any (ScionE.hit S i) then x.cond else x
theorem ScionE.want_nil {S : List ScionE} {i : Nat} {x : ScionE} : ScionE.want S [] i x = x := rfl
theorem ScionE.want_snoc {S : List ScionE} {ns : List NeedE} {n : NeedE} {i : Nat} {x : ScionE} : ScionE.want S (ns ++ [n]) i x = if ScionE.hit S i n then (ScionE.want S ns i x).cond else ScionE.want S ns i x := by
  unfold ScionE.want
  cases h1 : ns.any (ScionE.hit S i) <;> cases h2 : ScionE.hit S i n <;> simp [h1, h2, ScionE.cond]
theorem ScionE.lock_get {t : TraceE} {i : Nat} (ns : List NeedE) : ∀ (l : List ScionE), (lockScions t ns l)[i]? = (l[i]?).map fun x => if ns.any (ScionE.hit l i) then x.setLock t else x := by
  induction ns with
  | nil => intro l; simp [lockScions]
  | cons n ns ih =>
    intro l
    have e : ∀ m, ScionE.hit (setAt (isScion n.peer n.number) (ScionE.setLock t) l) i m = ScionE.hit l i m := fun m => by
      unfold ScionE.hit
      rw [idxOf_same (l' := l)]
      exact setAt_map (fun y => rfl)
    show (lockScions t ns (setAt (isScion n.peer n.number) (ScionE.setLock t) l))[i]? = _
    rw [ih, setAt_get, funext e]
    cases l[i]? with
    | none => rfl
    | some x =>
      have ha : (n :: ns).any (ScionE.hit l i) = (ScionE.hit l i n || ns.any (ScionE.hit l i)) := rfl
      rw [Option.map_some, Option.map_some, Option.map_some, ha]
      by_cases h : idxOf (isScion n.peer n.number) l = (i : Int)
      · have h' : ScionE.hit l i n = true := by simpa [ScionE.hit] using h
        simp only [h, if_true, h', Bool.true_or]
        split <;> rfl
      · have h' : ScionE.hit l i n = false := by simpa [ScionE.hit] using h
        rw [if_neg h]
        simp only [h', Bool.false_or]
theorem ScionE.condemned {t : TraceE} {S : List ScionE} {ns : List NeedE} (h0 : teq t.machine t.serial 0 0 = false) (hS : ∀ e ∈ S, teq e.lockMachine e.lockSerial t.machine t.serial = false) {i : Nat} {x : ScionE} (hx : S[i]? = some x) :
    (relScions true t (lockScions t ns S))[i]? = some (ScionE.want S ns i x) := by
  unfold relScions
  rw [h0]
  simp only [Bool.false_eq_true, if_false]
  rw [List.getElem?_map, ScionE.lock_get, hx]
  simp only [Option.map_some, ScionE.want]
  have hn := hS x (List.mem_of_getElem? hx)
  split
  · simp [ScionE.rel, ScionE.setLock, ScionE.cond, teq_self]
  · simp [ScionE.rel, hn]
end Go.Proofs.Ytnjpmpelgigmjaa

/-
  The events of a pair together: what each keeps, and how large a pair grows; plain Lean. No condition.
-/
import Derived.Test.YthigjlllhnajbaaC25Pair
import Derived.Test.YthigjlllhnajbaaC25Covers2
namespace Go.Proofs.Ythigjlllhnajbaa
def PairS.step (p : PairS) (k n : Nat) : PairS := match k with
  | 0 => p.export 2 (1 + (n : Int) % 4)
  | 1 => p.move
  | 2 => p.take
  | 3 => p.receive
  | 4 => p.drop n
  | 5 => p.weaken n
  | 6 => p.list
  | 7 => p.apply n
  | _ => p
theorem PI.step {p : PairS} (h : PI p) (k n : Nat) : PI (p.step k n) := by
  unfold PairS.step
  split
  · exact h.export _ _ (by decide)
  · exact h.move
  · exact h.take
  · exact h.receive
  · exact h.drop _
  · exact h.weaken _
  · exact h.list
  · exact h.apply _
  · exact h
/-- No list of the pair is longer than m, no count greater. -/
structure PLe (p : PairS) (m : Nat) : Prop where
  stubs : p.stubs.length ≤ m
  scions : p.scions.length ≤ m
  toClient : p.toClient.length ≤ m
  toOwner : p.toOwner.length ≤ m
  sent : p.sent ≤ m
  out : p.out ≤ m
  round : p.round ≤ m
  next : p.next ≤ m
  lists : p.lists.length ≤ m
  ents : ∀ l ∈ p.lists, l.entries.length ≤ m
theorem PLe.mono {p : PairS} {m k : Nat} (h : PLe p m) (hk : m ≤ k) : PLe p k := by
  obtain ⟨a, b, c, d, e, f, g, i, j, h10⟩ := h
  exact ⟨by omega, by omega, by omega, by omega, by omega, by omega, by omega, by omega, by omega, fun l hl => Nat.le_trans (h10 l hl) hk⟩
theorem drop_len (l : List StubE) (m s : Int) : (dropS l m s).length ≤ l.length := List.length_filter_le _ _
theorem keptL_len (es : List ListedE) (r s : Int) (l : List ScionE) : (keptL es r s l).length ≤ l.length := List.length_filterMap_le _ _
theorem putL_le1 (l : List ListedE) (e : ListedE) : (putL l e).length ≤ l.length + 1 := by
  unfold putL
  have := countL_le l e.number
  split
  · omega
  · simp only [List.length_append, List.length_take, List.length_drop, List.length_singleton]; omega
theorem refBuildL_len (o : Int) (l : List StubE) : (refBuildL o l).length ≤ l.length := by
  have : ∀ (l : List StubE) (a : List ListedE), (l.foldl (fun l e => if e.owner = o then putL l (listedOf e) else l) a).length ≤ a.length + l.length := by
    intro l
    induction l with
    | nil => intro a; simp
    | cons x l ih =>
      intro a
      rw [List.foldl_cons]
      refine Nat.le_trans (ih _) ?_
      split
      · have := putL_le1 a (listedOf x); simp only [List.length_cons]; omega
      · simp only [List.length_cons]; omega
  simpa [refBuildL] using this l []
theorem PLe.step {p : PairS} {m : Nat} (h : PLe p m) (k n : Nat) : PLe (p.step k n) (m + 1) := by
  have h1 := h.mono (Nat.le_succ m)
  obtain ⟨a, b, c, d, e, f, g, i, j, h10⟩ := h
  have hen : ∀ l ∈ p.lists, l.entries.length ≤ m + 1 := h1.ents
  unfold PairS.step
  split
  · unfold PairS.export
    split
    · split
      · constructor <;> simp only [List.length_append, List.length_set, List.length_cons, List.length_nil] <;> (first | omega | exact hen)
      · exact h1
    · constructor <;> simp only [List.length_append, List.length_set, List.length_cons, List.length_nil] <;> (first | omega | exact hen)
  · unfold PairS.move
    constructor <;> simp only [List.length_append, List.length_set, List.length_cons, List.length_nil] <;> (first | omega | exact hen)
  · unfold PairS.take
    split
    · constructor <;> simp only [List.length_append, List.length_set, List.length_cons, List.length_nil] <;> (first | omega | exact hen)
    · exact h1
  · unfold PairS.receive
    split
    · rename_i x _
      have := drop_len p.stubs x.iDMachine x.iDSerial
      split <;> constructor <;> simp only [List.length_append, List.length_set, List.length_cons, List.length_nil] <;> (first | omega | exact hen)
    · exact h1
  · unfold PairS.drop
    split
    · rename_i x _
      have := drop_len p.stubs x.iDMachine x.iDSerial
      constructor <;> simp only <;> (first | omega | exact hen)
    · exact h1
  · unfold PairS.weaken
    split
    · constructor <;> simp only [List.length_set] <;> (first | omega | exact hen)
    · exact h1
  · unfold PairS.list
    refine ⟨by simp only; omega, by simp only; omega, by simp only; omega, by simp only; omega, by simp only; omega, by simp only; omega, by simp only; omega, by simp only; omega, by simp only [List.length_append, List.length_cons, List.length_nil]; omega, fun l hl => ?_⟩
    rcases List.mem_append.1 hl with hl | hl
    · exact hen l hl
    · rw [List.mem_singleton] at hl; subst hl
      have := refBuildL_len 2 p.stubs
      simp only; omega
  · unfold PairS.apply
    split
    · rename_i l _
      split
      · have := keptL_len l.entries l.received l.sent p.scions
        constructor <;> simp only <;> (first | omega | exact hen)
      · exact h1
    · exact h1
  · exact h1
theorem PLe.start : PLe ⟨[], [], [], [], 0, 0, 0, 0, 0, 0, 0, []⟩ 0 := by constructor <;> simp
theorem PI.covers {p : PairS} (h : PI p) : coversB p.scions (knownL p) 2 1 = true := by
  unfold coversB
  rw [Bool.not_eq_true', List.any_eq_false]
  intro s hs
  obtain ⟨h1, h2, x, hx, a, b, c, d, e⟩ := h.safe s hs
  have : p.scions.any (coverB 1 s) = true := by
    rw [List.any_eq_true]
    refine ⟨x, hx, ?_⟩
    unfold coverB
    have hid : ideq x.iDMachine x.iDSerial s.iDMachine s.iDSerial = true := by rw [c, d]; exact IDE.beq_iff.2 rfl
    rw [hid]
    cases hw : s.weak <;> cases hx : x.weak <;> simp_all
  unfold lackB
  rw [this, Bool.not_true, Bool.and_false]
  decide
end Go.Proofs.Ythigjlllhnajbaa

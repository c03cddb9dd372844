/-
  Functions whose body holds a range over a function: entered and left. Conditions stand in each theorem.
-/
import Derived.Shelf.Abstract
import Derived.RangeFuncNested
import Derived.RangeFuncBound
import Derived.RangeFuncCalls
import Derived.RangeFuncLeaves
import Derived.OwnWalkIn
import Derived.TacticsInMore
import Derived.LoopNIn
import Derived.LoopIn
import Derived.Test.YtjegncmkebbdfaaGreatDoorMapLib
set_option linter.unusedSimpArgs false
set_option linter.unusedVariables false
namespace Go.Proofs.YtjegncmkebbdfaaGreatDoor
open Go.RowKit

section
variable {P : Program}
/-- A function's contract from its body, in plain words. -/
theorem calls_marks {f : FuncId} {fn : Func} {c : Code} {args : Array Value} {w : World} {R : Ending → World → Prop} (hf : P.funcs[f]? = some fn) (hb : fn.body = some c)
    (h : c.wp P (bodyPostM Fence.wide 9 P fn R) { tmps := args ++ Array.replicate (fn.ntmps - args.size) undef, defers := [] } w) : Calls P f args w R :=
  callsIn_wide.1 (callsIn_of_wp_marks hf hb trivial (wpIn_wide.2 h) rfl)
/-- Left before any range over a function was done. -/
theorem ret_plain {fn : Func} {R : Ending → World → Prop} {a : Act} {w : World} {v : Value} {n : Nat} (hr : (results fn a.tmps).run P w = .ok v w) (hd : a.defers = []) (hR : R (.returned v) w) : bodyPostM Fence.wide n P fn R .ret a w := by
  show LeavesInM Fence.wide n P fn a.tmps R a.defers FrameMode.returning w
  rw [hd]
  exact ⟨v, hr, hR⟩
theorem end_plain {fn : Func} {R : Ending → World → Prop} {a : Act} {w : World} {v : Value} {n : Nat} (hr : (results fn a.tmps).run P w = .ok v w) (hd : a.defers = []) (hR : R (.returned v) w) : bodyPostM Fence.wide n P fn R .normal a w := by
  show LeavesInM Fence.wide n P fn a.tmps R a.defers FrameMode.returning w
  rw [hd]
  exact ⟨v, hr, hR⟩
/-- Left behind one range over a function. -/
theorem ret_marked {fn : Func} {R : Ending → World → Prop} {a : Act} {w : World} {v : Value} {n D : Nat} (hd : a.defers = [{ target := .collected D, args := #[] }]) (hk : w.heap[D]? = some (.deferred (some []))) (hr : (results fn a.tmps).run P (w.putObj D (.deferred none)) = .ok v (w.putObj D (.deferred none)))
    (hR : R (.returned v) (w.putObj D (.deferred none))) : bodyPostM Fence.wide n P fn R .ret a w := by
  show LeavesInM Fence.wide n P fn a.tmps R a.defers FrameMode.returning w
  rw [hd]
  exact ⟨by simp, .inl ⟨_, _, rfl, run_takeDeferred hk, v, hr, hR⟩⟩
end
/-- A block with an object that is no row of cells. -/
abbrev Obj.there (w0 : World) (D : Nat) (o : Obj) : Prop := ∀ (u : World) [Later w0 u], u.heap[D]? = some o
theorem there_of {w0 : World} {D : Nat} {o : Obj} (h : w0.heap[D]? = some o) : Obj.there w0 D o := fun _ i => blk_below h i.below
theorem own_putObj {α : Type} {f : α → List Value} {s : Nat} {e : TypeId} {base D : Nat} {w : World} {v : Value} {l : List α} {o : Obj} (h : Own f s e base w v l) (hD : D < base) : Own f s e base (w.putObj D o) v l := by
  rw [show w.putObj D o = putAt w D o by simp [World.putObj, putAt]]
  exact h.putAt fun e => by have := (World.ownsRow.lt h D e).1; omega
theorem putObj_eq (w : World) (D : Nat) (o : Obj) : w.putObj D o = putAt w D o := by simp [World.putObj, putAt]
theorem putObj_below {B : Nat} {a w : World} {D : Nat} {o : Obj} (h : Below B a w) (hD : B ≤ D) : Below B a (w.putObj D o) := by rw [putObj_eq]; exact putAt_below h hD
/-- What the iterator over a slice wants kept: what lies below B, and its box. -/
def KpB (B Bs : Nat) (W W' : World) : Prop := Below B W W' ∧ ∀ o, W.heap[Bs]? = some o → W'.heap[Bs]? = some o
theorem KpB.trans {B Bs : Nat} {X Y Z : World} (h : KpB B Bs X Y) (k : KpB B Bs Y Z) : KpB B Bs X Z := ⟨h.1.trans k.1, fun o ho => k.2 o (h.2 o ho)⟩
theorem KpB.putObj {B Bs : Nat} {W : World} {l : Nat} {o' : Obj} (hB : B ≤ l) (hl : Bs ≠ l) : KpB B Bs W (W.putObj l o') :=
  ⟨putObj_below (Below.refl _ _) hB, fun o ho => by rw [putObj_eq, putAt_heap hl]; exact ho⟩
theorem keepsFrom_putAt {B g : Nat} {W : World} {o : Obj} (h : g < B) : KeepsFrom B W (putAt W g o) := ⟨by rw [putAt_size]; exact Nat.le_refl _, fun k o' hk ho _ => by rw [putAt_heap (by omega)]; exact ho⟩
theorem KpB.putAt {B Bs g : Nat} {W : World} {o : Obj} (hB : B ≤ g) (hl : Bs ≠ g) : KpB B Bs W (putAt W g o) := ⟨putAt_below (Below.refl _ _) hB, fun o ho => by rw [putAt_heap hl]; exact ho⟩
theorem ownFrom_of {β : Type} {B : Nat} {I : β → World → Prop} (h : ∀ s W W', I s W → (∀ k o, k < B → W.heap[k]? = some o → W'.heap[k]? = some o) → (∀ b, b ≤ B → b ≤ W.heap.size → Below b W W') → W.heap.size ≤ W'.heap.size → I s W') : OwnFrom B I := fun s W W' row hs hg hr =>
  h s W W' hs (fun k o hk ho => (hg.block k (blk_lt ho) (fun e => by have := (hr k e.symm).1; omega)).trans ho)
    (fun b hb hw => ⟨hg.os, hg.tape, hg.output, hg.size, fun k hk => hg.block k (by omega) (fun e => by have := (hr k e.symm).1; omega)⟩) hg.size
/-- What has come of a list when k rounds are over: the last k, the last one first, each with its index. -/
def backL {α : Type} (l : List α) (k : Nat) : List (Nat × α) := (List.range k).filterMap fun j => (l[l.length - 1 - j]?).map fun x => (l.length - 1 - j, x)
theorem backL_succ {α : Type} (l : List α) (k : Nat) (x : α) (h : l[l.length - 1 - k]? = some x) : backL l (k + 1) = backL l k ++ [(l.length - 1 - k, x)] := by simp [backL, List.range_succ, List.filterMap_append, h]
theorem backL_length {α : Type} (l : List α) (k : Nat) (hk : k ≤ l.length) : (backL l k).length = k := by
  induction k with
  | zero => rfl
  | succ k ih =>
    have hx : l[l.length - 1 - k]? = some (l[l.length - 1 - k]'(by omega)) := List.getElem?_eq_getElem _
    rw [backL_succ l k _ hx, List.length_append, ih (by omega)]; rfl
theorem backL_map {α : Type} (l : List α) : ∀ k, k ≤ l.length → (backL l k).map (·.2) = l.reverse.take k := by
  intro k
  induction k with
  | zero => intro _; simp [backL]
  | succ k ih =>
    intro hk
    have hx : l[l.length - 1 - k]? = some (l[l.length - 1 - k]'(by omega)) := List.getElem?_eq_getElem _
    rw [backL_succ l k _ hx, List.map_append, ih (by omega), List.take_add_one, List.getElem?_reverse (by omega), hx]
    rfl
/-- A map filled from the list's end: the first element with a key is what it holds. -/
def fillB {α κ : Type} [DecidableEq κ] (key : α → κ) (pre : List (Nat × α)) : κ → Option α := pre.foldl (fun M p => mupd M (key p.2) p.2) (fun _ => none)
theorem fillB_snoc {α κ : Type} [DecidableEq κ] (key : α → κ) (pre : List (Nat × α)) (x : Nat × α) : fillB key (pre ++ [x]) = mupd (fillB key pre) (key x.2) x.2 := by simp [fillB]
theorem fillB_all {α κ : Type} [DecidableEq κ] (key : α → κ) (l : List α) : fillB key (backL l l.length) = fun k => l.find? fun x => decide (key x = k) := by
  have h1 : fillB key (backL l l.length) = ((backL l l.length).map (·.2)).foldl (fun M x => mupd M (key x) x) (fun _ => none) := by
    unfold fillB; rw [List.foldl_map]
  rw [h1, backL_map l _ (Nat.le_refl _), List.take_of_length_le (by simp), List.foldl_reverse]
  clear h1
  induction l with
  | nil => rfl
  | cons x l ih =>
    funext k
    rw [List.foldr_cons, ih]
    simp only [mupd, List.find?_cons]
    by_cases h : k = key x
    · subst h; simp
    · have : ¬ key x = k := fun e => h e.symm
      simp [h, this]
/-- A range over a function whose loop variable is boxed and whose body goes on to its end each time: in plain words. -/
theorem wp_rangeBoxed {P : Program} {α : Type} {g : Operand} {ps : Array Tmp} {assign body : Code} {Q : Exit → Act → World → Prop} {a : Act} {w : World} {gf : Nat} {lb : Array Value} (hg : a.eval g = .func (.func gf) #[] lb) (eg : ∀ args w, (callFunc gf args).run P w = .ok (.enter gf args) w)
    {encs : α → Array Value} {B Bs : Nat} {S Sp : List α → Prop} {N : Nat} {w0 : World} (hseq : SeqStopsK Fence.wide 8 P gf lb encs (KpB B Bs) S Sp N w0) (hB : B ≤ w.heap.size) (hBs : Bs < w.heap.size) (hb0 : Below w0.heap.size w0 w) (hps : ∀ x, (encs x).size = ps.size)
    (I : List α → World → Prop) (hI : OwnFrom w.heap.size I) (hIs : ∀ pre W, I pre W → w.heap.size ≤ W.heap.size) (h0 : I [] w) {arr : α → Array Value} {T : TypeId} {tm : α → Nat → Array Value}
    (hassign : ∀ (l : Nat) (x : α) (W : World) (Bx : Nat) (K : Act → World → Prop), W.heap.size = Bx → (∀ a', a' = { tmps := tm x Bx, defers := [] } → K a' (W.alloc (.cells (arr x) T))) →
      assign.wpIn (Fence.wide.inRound l) 7 P (Exit.then K (fun _ _ _ => False)) { tmps := (ps.zip (encs x)).foldl (fun t (p, v) => t.setIfInBounds p v) a.tmps, defers := [] } W)
    (hbody : ∀ (l : Nat) (pre : List α) (x : α) (Bx : Nat) (W : World), w.heap.size ≤ Bx → Bx < W.heap.size → W.heap[Bx]? = some (.cells (arr x) T (0, 0)) → I pre W → pre.length < N →
      body.wpIn (Fence.wide.inRound l) 7 P (fun e _ W' => e = .normal ∧ KeepsFrom w.heap.size W W' ∧ KpB B Bs W W' ∧ I (pre ++ [x]) W') { tmps := tm x Bx, defers := [] } W)
    (hdone : ∀ (D : Nat) (xs : List α) (W : World), w.heap.size ≤ D → S xs → I xs W → W.heap[D]? = some (.deferred (some [])) → Q .normal { a with defers := { target := .collected D, args := #[] } :: a.defers } W) :
    (Code.rangeFunc g ps assign body).wp P Q a w := by
  refine (wpIn_wide (n := 9)).1 (wpIn_rangeFunc_ownH (F := Fence.wide) rfl (by omega) hg trivial eg hseq (fun h k => h.trans k) (fun W l o o' hl _ _ _ => KpB.putObj (by omega) (by omega)) hb0 hps I (fun _ _ _ => False) hI
    (fun c s W W' row h _ _ => h.elim) h0 (fun x a' W => ∃ Bx, w.heap.size ≤ Bx ∧ Bx < W.heap.size ∧ W.heap[Bx]? = some (.cells (arr x) T (0, 0)) ∧ a' = { tmps := tm x Bx, defers := [] }) ?_ ?_ ?_ hdone (fun _ _ _ _ _ _ h => h.elim))
  · rintro x a' s W W' row ⟨Bx, h1, h2, h3, h4⟩ hg' hr
    refine ⟨Bx, h1, Nat.lt_of_lt_of_le h2 hg'.size, ?_, h4⟩
    rw [hg'.block Bx h2 (fun e => ?_)]
    · exact h3
    · obtain ⟨_, o, ho, hc⟩ := hr Bx e.symm
      rw [h3] at ho; injection ho with ho; subst ho; cases hc
  · intro l pre x W K hi hK
    refine hassign l x W W.heap.size K rfl fun a' ha' => hK a' _ ((KeepsOthers.alloc _ _).from _) ⟨?_, fun o ho => ?_⟩ (hI.alloc _ hi) ⟨W.heap.size, ?_, by simp, heap_alloc_new _ _, ha'⟩
    · exact (Below.refl B W).alloc (Nat.le_trans hB (hIs _ _ hi)) _
    · rw [heap_alloc_if, if_neg (fun e => ?_)]
      · exact ho
      · rw [e] at ho; simp at ho
    · exact hIs _ _ hi
  · rintro l pre x a' W hl _ hi ⟨Bx, h1, h2, h3, rfl⟩ hlen
    refine wpIn_mono (hbody l pre x Bx W h1 h2 h3 hi hlen) ?_
    rintro e a'' W' ⟨rfl, h⟩
    exact h
end Go.Proofs.YtjegncmkebbdfaaGreatDoor

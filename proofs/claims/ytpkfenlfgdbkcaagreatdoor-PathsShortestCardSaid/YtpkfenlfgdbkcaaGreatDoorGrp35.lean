/-
  Small texts of this seat, put into one. Conditions stand in each theorem.
-/
import Derived.Shelf.Abstract
import Derived.RangeFuncNested
import Derived.RangeFuncBound
import Derived.RangeFuncCalls
import Derived.RangeFuncLeaves
import Derived.OwnWalkIn
import Derived.TacticsInMore
import Derived.LoopNIn
import Derived.LoopIn
import Derived.Test.YtpkfenlfgdbkcaaGreatDoorGrp31
import Derived.Test.YtpkfenlfgdbkcaaGreatDoorGrpA
import Derived.Test.YtpkfenlfgdbkcaaGreatDoorGrp32
import Derived.OrdersIn
import Derived.Test.YtpkfenlfgdbkcaaGreatDoorP59Num
set_option linter.unusedSimpArgs false
set_option linter.unusedVariables false
namespace Go.Proofs.YtpkfenlfgdbkcaaGreatDoor
open Go.RowKit

section
variable {P : Program}
/-- A function's contract from its body, in plain words. -/
theorem calls_marks {f : FuncId} {fn : Func} {c : Code} {args : Array Value} {w : World} {R : Ending → World → Prop} (hf : P.funcs[f]? = some fn) (hb : fn.body = some c)
    (h : c.wp P (bodyPostM Fence.wide 9 P fn R) { tmps := args ++ Array.replicate (fn.ntmps - args.size) undef, defers := [] } w) : Calls P f args w R :=
  callsIn_wide.1 (callsIn_of_wp_marks hf hb trivial (wpIn_wide.2 h) rfl)
/-- Left before any range over a function was done. -/
theorem ret_plain {fn : Func} {R : Ending → World → Prop} {a : Act} {w : World} {v : Value} {n : Nat} (hr : (results fn a.tmps).run P w = .ok v w) (hd : a.defers = []) (hR : R (.returned v) w) : bodyPostM Fence.wide n P fn R .ret a w := by
  show LeavesInM Fence.wide n P fn a.tmps R a.defers FrameMode.returning w
  rw [hd]
  exact ⟨v, hr, hR⟩
theorem end_plain {fn : Func} {R : Ending → World → Prop} {a : Act} {w : World} {v : Value} {n : Nat} (hr : (results fn a.tmps).run P w = .ok v w) (hd : a.defers = []) (hR : R (.returned v) w) : bodyPostM Fence.wide n P fn R .normal a w := by
  show LeavesInM Fence.wide n P fn a.tmps R a.defers FrameMode.returning w
  rw [hd]
  exact ⟨v, hr, hR⟩
/-- Left behind one range over a function. -/
theorem ret_marked {fn : Func} {R : Ending → World → Prop} {a : Act} {w : World} {v : Value} {n D : Nat} (hd : a.defers = [{ target := .collected D, args := #[] }]) (hk : w.heap[D]? = some (.deferred (some []))) (hr : (results fn a.tmps).run P (w.putObj D (.deferred none)) = .ok v (w.putObj D (.deferred none)))
    (hR : R (.returned v) (w.putObj D (.deferred none))) : bodyPostM Fence.wide n P fn R .ret a w := by
  show LeavesInM Fence.wide n P fn a.tmps R a.defers FrameMode.returning w
  rw [hd]
  exact ⟨by simp, .inl ⟨_, _, rfl, run_takeDeferred hk, v, hr, hR⟩⟩
end
/-- A block with an object that is no row of cells. -/
abbrev Obj.there (w0 : World) (D : Nat) (o : Obj) : Prop := ∀ (u : World) [Later w0 u], u.heap[D]? = some o
theorem there_of {w0 : World} {D : Nat} {o : Obj} (h : w0.heap[D]? = some o) : Obj.there w0 D o := fun _ i => blk_below h i.below
theorem own_putObj {α : Type} {f : α → List Value} {s : Nat} {e : TypeId} {base D : Nat} {w : World} {v : Value} {l : List α} {o : Obj} (h : Own f s e base w v l) (hD : D < base) : Own f s e base (w.putObj D o) v l := by
  rw [show w.putObj D o = putAt w D o by simp [World.putObj, putAt]]
  exact h.putAt fun e => by have := (World.ownsRow.lt h D e).1; omega
theorem putObj_eq (w : World) (D : Nat) (o : Obj) : w.putObj D o = putAt w D o := by simp [World.putObj, putAt]
theorem putObj_below {B : Nat} {a w : World} {D : Nat} {o : Obj} (h : Below B a w) (hD : B ≤ D) : Below B a (w.putObj D o) := by rw [putObj_eq]; exact putAt_below h hD
/-- What the iterator over a slice wants kept: what lies below B, and its box. -/
def KpB (B Bs : Nat) (W W' : World) : Prop := Below B W W' ∧ ∀ o, W.heap[Bs]? = some o → W'.heap[Bs]? = some o
theorem KpB.trans {B Bs : Nat} {X Y Z : World} (h : KpB B Bs X Y) (k : KpB B Bs Y Z) : KpB B Bs X Z := ⟨h.1.trans k.1, fun o ho => k.2 o (h.2 o ho)⟩
theorem KpB.putObj {B Bs : Nat} {W : World} {l : Nat} {o' : Obj} (hB : B ≤ l) (hl : Bs ≠ l) : KpB B Bs W (W.putObj l o') :=
  ⟨putObj_below (Below.refl _ _) hB, fun o ho => by rw [putObj_eq, putAt_heap hl]; exact ho⟩
theorem keepsFrom_putAt {B g : Nat} {W : World} {o : Obj} (h : g < B) : KeepsFrom B W (putAt W g o) := ⟨by rw [putAt_size]; exact Nat.le_refl _, fun k o' hk ho _ => by rw [putAt_heap (by omega)]; exact ho⟩
theorem KpB.putAt {B Bs g : Nat} {W : World} {o : Obj} (hB : B ≤ g) (hl : Bs ≠ g) : KpB B Bs W (putAt W g o) := ⟨putAt_below (Below.refl _ _) hB, fun o ho => by rw [putAt_heap hl]; exact ho⟩
theorem ownFrom_of {β : Type} {B : Nat} {I : β → World → Prop} (h : ∀ s W W', I s W → (∀ k o, k < B → W.heap[k]? = some o → W'.heap[k]? = some o) → (∀ b, b ≤ B → b ≤ W.heap.size → Below b W W') → W.heap.size ≤ W'.heap.size → I s W') : OwnFrom B I := fun s W W' row hs hg hr =>
  h s W W' hs (fun k o hk ho => (hg.block k (blk_lt ho) (fun e => by have := (hr k e.symm).1; omega)).trans ho)
    (fun b hb hw => ⟨hg.os, hg.tape, hg.output, hg.size, fun k hk => hg.block k (by omega) (fun e => by have := (hr k e.symm).1; omega)⟩) hg.size
/-- What has come of a list when k rounds are over: the last k, the last one first, each with its index. -/
def backL {α : Type} (l : List α) (k : Nat) : List (Nat × α) := (List.range k).filterMap fun j => (l[l.length - 1 - j]?).map fun x => (l.length - 1 - j, x)
theorem backL_succ {α : Type} (l : List α) (k : Nat) (x : α) (h : l[l.length - 1 - k]? = some x) : backL l (k + 1) = backL l k ++ [(l.length - 1 - k, x)] := by simp [backL, List.range_succ, List.filterMap_append, h]
theorem backL_length {α : Type} (l : List α) (k : Nat) (hk : k ≤ l.length) : (backL l k).length = k := by
  induction k with
  | zero => rfl
  | succ k ih =>
    have hx : l[l.length - 1 - k]? = some (l[l.length - 1 - k]'(by omega)) := List.getElem?_eq_getElem _
    rw [backL_succ l k _ hx, List.length_append, ih (by omega)]; rfl
theorem backL_map {α : Type} (l : List α) : ∀ k, k ≤ l.length → (backL l k).map (·.2) = l.reverse.take k := by
  intro k
  induction k with
  | zero => intro _; simp [backL]
  | succ k ih =>
    intro hk
    have hx : l[l.length - 1 - k]? = some (l[l.length - 1 - k]'(by omega)) := List.getElem?_eq_getElem _
    rw [backL_succ l k _ hx, List.map_append, ih (by omega), List.take_add_one, List.getElem?_reverse (by omega), hx]
    rfl
/-- A map filled from the list's end: the first element with a key is what it holds. -/
def fillB {α κ : Type} [DecidableEq κ] (key : α → κ) (pre : List (Nat × α)) : κ → Option α := pre.foldl (fun M p => mupd M (key p.2) p.2) (fun _ => none)
theorem fillB_snoc {α κ : Type} [DecidableEq κ] (key : α → κ) (pre : List (Nat × α)) (x : Nat × α) : fillB key (pre ++ [x]) = mupd (fillB key pre) (key x.2) x.2 := by simp [fillB]
theorem fillB_all {α κ : Type} [DecidableEq κ] (key : α → κ) (l : List α) : fillB key (backL l l.length) = fun k => l.find? fun x => decide (key x = k) := by
  have h1 : fillB key (backL l l.length) = ((backL l l.length).map (·.2)).foldl (fun M x => mupd M (key x) x) (fun _ => none) := by
    unfold fillB; rw [List.foldl_map]
  rw [h1, backL_map l _ (Nat.le_refl _), List.take_of_length_le (by simp), List.foldl_reverse]
  clear h1
  induction l with
  | nil => rfl
  | cons x l ih =>
    funext k
    rw [List.foldr_cons, ih]
    simp only [mupd, List.find?_cons]
    by_cases h : k = key x
    · subst h; simp
    · have : ¬ key x = k := fun e => h e.symm
      simp [h, this]
/-- A range over a function whose loop variable is boxed and whose body goes on to its end each time: in plain words. -/
theorem wp_rangeBoxed {P : Program} {α : Type} {g : Operand} {ps : Array Tmp} {assign body : Code} {Q : Exit → Act → World → Prop} {a : Act} {w : World} {gf : Nat} {lb : Array Value} (hg : a.eval g = .func (.func gf) #[] lb) (eg : ∀ args w, (callFunc gf args).run P w = .ok (.enter gf args) w)
    {encs : α → Array Value} {B Bs : Nat} {S Sp : List α → Prop} {N : Nat} {w0 : World} (hseq : SeqStopsK Fence.wide 8 P gf lb encs (KpB B Bs) S Sp N w0) (hB : B ≤ w.heap.size) (hBs : Bs < w.heap.size) (hb0 : Below w0.heap.size w0 w) (hps : ∀ x, (encs x).size = ps.size)
    (I : List α → World → Prop) (hI : OwnFrom w.heap.size I) (hIs : ∀ pre W, I pre W → w.heap.size ≤ W.heap.size) (h0 : I [] w) {arr : α → Array Value} {T : TypeId} {tm : α → Nat → Array Value}
    (hassign : ∀ (l : Nat) (x : α) (W : World) (Bx : Nat) (K : Act → World → Prop), W.heap.size = Bx → (∀ a', a' = { tmps := tm x Bx, defers := [] } → K a' (W.alloc (.cells (arr x) T))) →
      assign.wpIn (Fence.wide.inRound l) 7 P (Exit.then K (fun _ _ _ => False)) { tmps := (ps.zip (encs x)).foldl (fun t (p, v) => t.setIfInBounds p v) a.tmps, defers := [] } W)
    (hbody : ∀ (l : Nat) (pre : List α) (x : α) (Bx : Nat) (W : World), w.heap.size ≤ Bx → Bx < W.heap.size → W.heap[Bx]? = some (.cells (arr x) T (0, 0)) → I pre W → pre.length < N →
      body.wpIn (Fence.wide.inRound l) 7 P (fun e _ W' => e = .normal ∧ KeepsFrom w.heap.size W W' ∧ KpB B Bs W W' ∧ I (pre ++ [x]) W') { tmps := tm x Bx, defers := [] } W)
    (hdone : ∀ (D : Nat) (xs : List α) (W : World), w.heap.size ≤ D → S xs → I xs W → W.heap[D]? = some (.deferred (some [])) → Q .normal { a with defers := { target := .collected D, args := #[] } :: a.defers } W) :
    (Code.rangeFunc g ps assign body).wp P Q a w := by
  refine (wpIn_wide (n := 9)).1 (wpIn_rangeFunc_ownH (F := Fence.wide) rfl (by omega) hg trivial eg hseq (fun h k => h.trans k) (fun W l o o' hl _ _ _ => KpB.putObj (by omega) (by omega)) hb0 hps I (fun _ _ _ => False) hI
    (fun c s W W' row h _ _ => h.elim) h0 (fun x a' W => ∃ Bx, w.heap.size ≤ Bx ∧ Bx < W.heap.size ∧ W.heap[Bx]? = some (.cells (arr x) T (0, 0)) ∧ a' = { tmps := tm x Bx, defers := [] }) ?_ ?_ ?_ hdone (fun _ _ _ _ _ _ h => h.elim))
  · rintro x a' s W W' row ⟨Bx, h1, h2, h3, h4⟩ hg' hr
    refine ⟨Bx, h1, Nat.lt_of_lt_of_le h2 hg'.size, ?_, h4⟩
    rw [hg'.block Bx h2 (fun e => ?_)]
    · exact h3
    · obtain ⟨_, o, ho, hc⟩ := hr Bx e.symm
      rw [h3] at ho; injection ho with ho; subst ho; cases hc
  · intro l pre x W K hi hK
    refine hassign l x W W.heap.size K rfl fun a' ha' => hK a' _ ((KeepsOthers.alloc _ _).from _) ⟨?_, fun o ho => ?_⟩ (hI.alloc _ hi) ⟨W.heap.size, ?_, by simp, heap_alloc_new _ _, ha'⟩
    · exact (Below.refl B W).alloc (Nat.le_trans hB (hIs _ _ hi)) _
    · rw [heap_alloc_if, if_neg (fun e => ?_)]
      · exact ho
      · rw [e] at ho; simp at ho
    · exact hIs _ _ hi
  · rintro l pre x a' W hl _ hi ⟨Bx, h1, h2, h3, rfl⟩ hlen
    refine wpIn_mono (hbody l pre x Bx W h1 h2 h3 hi hlen) ?_
    rintro e a'' W' ⟨rfl, h⟩
    exact h
end Go.Proofs.YtpkfenlfgdbkcaaGreatDoor

namespace Go.Proofs.YtpkfenlfgdbkcaaGreatDoor
open Go.RowKit
def dstD (ops : Array Oper) (i : Nat) : Option Tmp := (ops[i]?).bind (·.dst)
/-- The slots that a region writes. -/
def dstL (ops : Array Oper) : List Tmp := ops.toList.filterMap (·.dst)
def valD (ops : Array Oper) (a : Act) (i : Nat) : Value := match dstD ops i with | some d => a.tmps.getD d undef | none => undef
def needsD (ops : Array Oper) (i : Nat) : List Nat := match ops[i]? with | some o => (o.after.toList.filter fun e => Region.binds .any e).map (·.on) | none => []
/-- Each waits for earlier ones only; no two write one slot; each slot is there. -/
def checkD (ops : Array Oper) (n : Nat) : Bool := (List.range ops.size).all fun i => ((needsD ops i).all fun j => decide (j < i)) && (match dstD ops i with | none => true | some d => decide (d < n) && (List.range i).all fun j => decide (dstD ops j ≠ some d))
section
variable {P : Program} {ops : Array Oper} {Q : Exit → Act → World → Prop} {R : Nat → Value → World → Prop} {w0 : World} {a0 : Act}
structure InvR (ops : Array Oper) (R : Nat → Value → World → Prop) (w0 : World) (a0 : Act) (listed : Nat → Bool) (a : Act) (w : World) : Prop where
  later : Later w0 w
  defers : a.defers = a0.defers
  size : a.tmps.size = a0.tmps.size
  out : ∀ t, t ∉ dstL ops → a.tmps.getD t undef = a0.tmps.getD t undef
  got : ∀ i, i < ops.size → listed i = true → R i (valD ops a i) w
theorem checkD_needs {n i j : Nat} (h : checkD ops n = true) (hi : i < ops.size) (hj : j ∈ needsD ops i) : j < i := by
  unfold checkD at h
  have := List.all_eq_true.1 h i (List.mem_range.2 hi)
  rw [Bool.and_eq_true] at this
  exact of_decide_eq_true (List.all_eq_true.1 this.1 j hj)
theorem checkD_dst {n i d : Nat} (h : checkD ops n = true) (hi : i < ops.size) (hd : dstD ops i = some d) : d < n ∧ ∀ j, j < i → dstD ops j ≠ some d := by
  unfold checkD at h
  have := List.all_eq_true.1 h i (List.mem_range.2 hi)
  rw [Bool.and_eq_true, hd] at this
  have h2 := this.2
  simp only [Bool.and_eq_true, decide_eq_true_eq] at h2
  exact ⟨h2.1, fun j hj => of_decide_eq_true (List.all_eq_true.1 h2.2 j (List.mem_range.2 hj))⟩
theorem checkD_inj {n i j d : Nat} (h : checkD ops n = true) (hi : i < ops.size) (hj : j < ops.size) (hd : dstD ops i = some d) (hd' : dstD ops j = some d) : i = j := by
  rcases Nat.lt_trichotomy i j with e | e | e
  · exact absurd hd ((checkD_dst h hj hd').2 i e)
  · exact e
  · exact absurd hd' ((checkD_dst h hi hd).2 j e)
theorem dstL_mem {i d : Nat} (hi : i < ops.size) (hd : dstD ops i = some d) : d ∈ dstL ops := by
  unfold dstD at hd
  rw [Array.getElem?_eq_getElem hi] at hd
  exact List.mem_filterMap.2 ⟨ops[i], by simp, hd⟩
theorem getD_put_same {a : Act} {d : Nat} {v : Value} (h : d < a.tmps.size) : (a.put (some d) v).tmps.getD d undef = v := by
  simp [Act.put, Array.getD, h]
theorem getD_put_ne {a : Act} {o : Option Tmp} {t : Nat} {v : Value} (h : o ≠ some t) : (a.put o v).tmps.getD t undef = a.tmps.getD t undef := by
  cases o with
  | none => rfl
  | some d =>
    have hne : d ≠ t := fun e => h (by rw [e])
    simp only [Act.put, Array.getD_eq_getD_getElem?, Array.getElem?_setIfInBounds, if_neg hne]
theorem size_put {a : Act} {o : Option Tmp} {v : Value} : (a.put o v).tmps.size = a.tmps.size := by cases o <;> simp [Act.put]
theorem defers_put {a : Act} {o : Option Tmp} {v : Value} : (a.put o v).defers = a.defers := by cases o <;> rfl
/-- What an operation must do. -/
def StepD (P : Program) (ops : Array Oper) (Q : Exit → Act → World → Prop) (R : Nat → Value → World → Prop) (w0 : World) (a0 : Act) (i : Nat) (o : Oper) : Prop :=
  ∀ a w, Later w0 w → (∀ j ∈ needsD ops i, R j (valD ops a j) w) → (∀ t, t ∉ dstL ops → a.tmps.getD t undef = a0.tmps.getD t undef) → ∀ K : Act → World → Prop, (∀ v w', Later w w' → R i (if o.dst.isSome then v else undef) w' → K (a.put o.dst v) w') →
    if Region.wanted o (yielded ops a.tmps) = true then Oper.wp P o a w K Q else K (a.put o.dst undef) w
theorem InvR.step {listed : Nat → Bool} {a : Act} {w : World} {n i : Nat} {o : Oper} (hmono : ∀ i v w w', Later w w' → R i v w → R i v w') (hc : checkD ops n = true) (hn : n = a0.tmps.size) (hI : InvR ops R w0 a0 listed a w) (ho : ops[i]? = some o)
    {v : Value} {w' : World} (hl : Later w w') (hR : R i (if o.dst.isSome then v else undef) w') : InvR ops R w0 a0 (fun j => if j = i then true else listed j) (a.put o.dst v) w' := by
  have hi : i < ops.size := (Array.getElem?_eq_some_iff.1 ho).1
  have hd : dstD ops i = o.dst := by unfold dstD; rw [ho]; rfl
  refine ⟨hI.later.trans hl, by rw [defers_put, hI.defers], by rw [size_put, hI.size], fun t ht => ?_, fun j hj hlj => ?_⟩
  · rw [getD_put_ne (fun e => ht (dstL_mem hi (hd.trans e))), hI.out t ht]
  · by_cases e : j = i
    · subst e
      unfold valD
      rw [hd]
      cases hod : o.dst with
      | none => rw [hod] at hR; exact hR
      | some d =>
        rw [hod] at hR hd
        have := (checkD_dst hc hi hd).1
        show R j ((a.put (some d) v).tmps.getD d undef) w'
        rw [getD_put_same (by rw [hI.size, ← hn]; exact this)]
        exact hR
    · rw [if_neg e] at hlj
      have h1 := hmono j _ w w' hl (hI.got j hj hlj)
      have : valD ops (a.put o.dst v) j = valD ops a j := by
        unfold valD
        cases hdj : dstD ops j with
        | none => rfl
        | some d => exact getD_put_ne fun h2 => e (checkD_inj hc hj hi hdj (hd.trans h2))
      rw [this]
      exact h1
/-- How many are not listed yet. -/
def leftD (n : Nat) (listed : Array Bool) : Nat := ((List.range n).filter fun i => !listed.getD i true).length
/-- The last operation (a store, say) waits for all others; or there is none. -/
def lastD (ops : Array Oper) (last : Nat) : Bool := decide (ops.size ≤ last) || (List.range ops.size).all fun j => decide (j = last) || (needsD ops last).contains j
theorem lastD_needs {last j : Nat} (h : lastD ops last = true) (hl : last < ops.size) (hj : j < ops.size) (hne : j ≠ last) : j ∈ needsD ops last := by
  unfold lastD at h
  rw [Bool.or_eq_true] at h
  rcases h with h | h
  · have := of_decide_eq_true h; omega
  · have := List.all_eq_true.1 h j (List.mem_range.2 hj)
    rw [Bool.or_eq_true] at this
    rcases this with h | h
    · exact absurd (of_decide_eq_true h) hne
    · simpa using h
def LastD (P : Program) (ops : Array Oper) (Q : Exit → Act → World → Prop) (R : Nat → Value → World → Prop) (w0 : World) (a0 : Act) (last : Nat) (o : Oper) : Prop :=
  ∀ a w, InvR ops R w0 a0 (fun j => j != last) a w → ∀ K : Act → World → Prop, (∀ a' w', Q .normal a' w' → K a' w') → if Region.wanted o (yielded ops a.tmps) = true then Oper.wp P o a w K Q else K (a.put o.dst undef) w
theorem wpAny_inv {last : Nat} (hmono : ∀ i v w w', Later w w' → R i v w → R i v w') (hc : checkD ops a0.tmps.size = true) (hcl : lastD ops last = true) (hstep : ∀ i o, ops[i]? = some o → i ≠ last → StepD P ops Q R w0 a0 i o) (hlast : ∀ o, ops[last]? = some o → LastD P ops Q R w0 a0 last o) (hend : ops.size ≤ last → ∀ a w, InvR ops R w0 a0 (fun _ => true) a w → Q .normal a w) :
    ∀ (fuel : Nat) (listed : Array Bool) (a : Act) (w : World), listed.size = ops.size → leftD ops.size listed ≤ fuel → (last < ops.size → listed.getD last true = false) → InvR ops R w0 a0 (fun i => listed.getD i true) a w → wpAny P .any ops Q fuel listed a w := by
  have hall : ∀ (listed : Array Bool) (a : Act) (w : World), listed.size = ops.size → (last < ops.size → listed.getD last true = false) → InvR ops R w0 a0 (fun i => listed.getD i true) a w → Region.ready .any ops listed = [] → Q .normal a w := fun listed a w hs hnl hI hr => by
    have key : ∀ i, i < ops.size → listed.getD i true = true := fun i => by
      induction i using Nat.strongRecOn with
      | _ i ih =>
        intro hi
        by_cases hl : listed.getD i true = true
        · exact hl
        · exfalso
          have : i ∈ Region.ready .any ops listed := by
            unfold Region.ready
            rw [List.mem_filter]
            refine ⟨List.mem_range.2 hi, ?_⟩
            have hl' : listed.getD i true = false := by simpa using hl
            rw [hl', Array.getElem?_eq_getElem hi]
            simp only [Bool.not_false, Bool.true_and, Option.map_some, Option.getD_some]
            rw [Array.all_eq_true]
            intro j hj
            cases hb : Region.binds .any (ops[i].after[j]) with
            | false => rfl
            | true =>
              have hn : (ops[i].after[j]).on ∈ needsD ops i := by
                unfold needsD
                rw [Array.getElem?_eq_getElem hi]
                exact List.mem_map.2 ⟨ops[i].after[j], List.mem_filter.2 ⟨by simp, hb⟩, rfl⟩
              have hlt := checkD_needs hc hi hn
              have h1 := ih _ hlt (by omega)
              have : listed.getD (ops[i].after[j]).on false = true := by
                have hs2 : (ops[i].after[j]).on < listed.size := by omega
                simp only [Array.getD, hs2, dif_pos] at h1 ⊢
                exact h1
              rw [this]; rfl
          rw [hr] at this; cases this
    have hle : ops.size ≤ last := by
      rcases Nat.lt_or_ge last ops.size with h | h
      · have h1 := key last h
        rw [hnl h] at h1; cases h1
      · exact h
    exact hend hle a w ⟨hI.later, hI.defers, hI.size, hI.out, fun i hi _ => hI.got i hi (key i hi)⟩
  intro fuel
  induction fuel with
  | zero =>
    intro listed a w hs hf hlf hI
    have hr : Region.ready .any ops listed = [] := by
      rcases h : Region.ready .any ops listed with _ | ⟨i, rs⟩
      · rfl
      · exfalso
        have hi : i ∈ Region.ready .any ops listed := by rw [h]; exact List.mem_cons_self
        unfold Region.ready at hi
        obtain ⟨h1, h2⟩ := List.mem_filter.1 hi
        rw [Bool.and_eq_true] at h2
        have : i ∈ (List.range ops.size).filter fun i => !listed.getD i true := List.mem_filter.2 ⟨h1, h2.1⟩
        unfold leftD at hf
        have := List.length_pos_of_mem this
        omega
    exact ⟨hr, hall listed a w hs hlf hI hr⟩
  | succ fuel ih =>
    intro listed a w hs hf hlf hI
    refine ⟨fun hr => hall listed a w hs hlf hI hr, fun i hi => ?_⟩
    unfold Region.ready at hi
    obtain ⟨h1, h2⟩ := List.mem_filter.1 hi
    rw [Bool.and_eq_true] at h2
    have hi' := List.mem_range.1 h1
    have hnl : listed.getD i true = false := by simpa using h2.1
    obtain ⟨o, ho⟩ : ∃ o, ops[i]? = some o := ⟨_, Array.getElem?_eq_getElem hi'⟩
    have hal : ∀ j ∈ needsD ops i, listed.getD j true = true := fun j hj => by
      unfold needsD at hj
      rw [ho] at hj h2
      obtain ⟨e, he, rfl⟩ := List.mem_map.1 hj
      obtain ⟨he1, he2⟩ := List.mem_filter.1 he
      have h3 := h2.2
      simp only [Option.map_some, Option.getD_some] at h3
      rw [Array.all_eq_true'] at h3
      have h4 := h3 e (by simpa using he1)
      rw [he2] at h4
      simp only [Bool.not_true, Bool.false_or] at h4
      by_cases hs2 : e.on < listed.size
      · simp only [Array.getD, hs2, dif_pos] at h4 ⊢
        exact h4
      · simp only [Array.getD, hs2, dif_neg, not_false_eq_true] at h4
        cases h4
    refine wpOp_step ho fun K hK => ?_
    by_cases hil : i = last
    · subst hil
      have hother : ∀ j, j < ops.size → (j != i) = true → listed.getD j true = true := fun j hj hji => hal j (lastD_needs hcl hi' hj (by simpa using hji))
      refine hlast o ho a w ⟨hI.later, hI.defers, hI.size, hI.out, fun j hj hji => hI.got j hj (hother j hj hji)⟩ K (fun a' w' hQ => hK _ _ (wpAny_done ?_ hQ _))
      rcases h : Region.ready .any ops (listed.setIfInBounds i true) with _ | ⟨k, rs⟩
      · rfl
      · exfalso
        have hk : k ∈ Region.ready .any ops (listed.setIfInBounds i true) := by rw [h]; exact List.mem_cons_self
        unfold Region.ready at hk
        obtain ⟨k1, k2⟩ := List.mem_filter.1 hk
        rw [Bool.and_eq_true] at k2
        have k3 := k2.1
        have k4 := List.mem_range.1 k1
        by_cases e : k = i
        · subst e
          simp [Array.getD_eq_getD_getElem?, Array.getElem?_setIfInBounds, show k < listed.size by omega] at k3
        · have k5 := hother k k4 (by simpa using e)
          simp only [Array.getD_eq_getD_getElem?, Array.getElem?_setIfInBounds, if_neg (show ¬ i = k from fun h => e h.symm)] at k3 k5
          rw [k5] at k3
          cases k3
    refine hstep i o ho hil a w hI.later (fun j hj => ?_) hI.out K (fun v w' hl hR => hK _ _ ?_)
    · exact hI.got j (by have := checkD_needs hc hi' hj; omega) (hal j hj)
    · refine ih _ _ _ (by simpa using hs) ?_ (fun h => by
        have h1 := hlf h
        simpa [Array.getD_eq_getD_getElem?, Array.getElem?_setIfInBounds, hil] using h1) ?_
      · have : leftD ops.size (listed.setIfInBounds i true) < leftD ops.size listed := by
          unfold leftD
          have h3 : i ∈ (List.range ops.size).filter fun j => !listed.getD j true := List.mem_filter.2 ⟨h1, h2.1⟩
          have h4 : ((List.range ops.size).filter fun j => !(listed.setIfInBounds i true).getD j true) = ((List.range ops.size).filter fun j => !listed.getD j true).erase i := by
            rw [List.Nodup.erase_eq_filter (List.Pairwise.filter _ List.nodup_range), List.filter_filter]
            apply List.filter_congr
            intro j hj
            by_cases e : j = i
            · subst e
              simp [Array.getD_eq_getD_getElem?, Array.getElem?_setIfInBounds, show j < listed.size by omega]
            · simp [Array.getD_eq_getD_getElem?, Array.getElem?_setIfInBounds, show ¬ i = j from fun h => e h.symm, e]
          rw [h4, List.length_erase_of_mem h3]
          have := List.length_pos_of_mem h3
          omega
        omega
      · have := hI.step hmono hc rfl ho hl hR
        refine ⟨this.later, this.defers, this.size, this.out, fun j hj hlj => this.got j hj ?_⟩
        by_cases e : j = i
        · simp [e]
        · show (if j = i then true else listed.getD j true) = true
          rw [if_neg e]
          simpa [Array.getD_eq_getD_getElem?, Array.getElem?_setIfInBounds, show ¬ i = j from fun h => e h.symm] using hlj
theorem wp_region_inv {last : Nat} (hm : P.follows .mixedOrders = true) {id : Nat} {a0 : Act} {w : World} (hmono : ∀ i v w w', Later w w' → R i v w → R i v w') (hc : checkD ops a0.tmps.size = true) (hcl : lastD ops last = true) (hstep : ∀ i o, ops[i]? = some o → i ≠ last → StepD P ops Q R w.drew a0 i o) (hlast : ∀ o, ops[last]? = some o → LastD P ops Q R w.drew a0 last o) (hend : ops.size ≤ last → ∀ a w', InvR ops R w.drew a0 (fun _ => true) a w' → Q .normal a w') :
    (Code.region id ops true).wp P Q a0 w := by
  refine wp_region_any hm (wpAny_inv hmono hc hcl hstep hlast hend ops.size _ a0 w.drew (by simp) ?_ (fun h => by simp [Array.getD, h]) ⟨Later.refl, rfl, rfl, fun _ _ => rfl, fun i hi hl => ?_⟩)
  · unfold leftD
    refine Nat.le_trans (List.length_filter_le _ _) (by rw [List.length_range]; exact Nat.le_refl _)
  · simp [Array.getD, hi] at hl
end
/-! ### Facts that last -/
structure Spec where
  r : Value → World → Prop
  mono : ∀ v w w', Later w w' → r v w → r v w'
def Spec.is (x : Value) : Spec := ⟨fun v _ => v = x, fun _ _ _ _ h => h⟩
def Spec.any : Spec := ⟨fun _ _ => True, fun _ _ _ _ h => h⟩
/-- f of a block that holds these cells. -/
def Spec.blk (f : Nat → Value) (cs : Array Value) (t : TypeId) : Spec := ⟨fun v w => ∃ g, v = f g ∧ w.heap[g]? = some (.cells cs t (0, 0)), fun _ _ _ l ⟨g, h1, h2⟩ => ⟨g, h1, blk_below h2 l.below⟩⟩
def specR (l : List Spec) (i : Nat) (v : Value) (w : World) : Prop := (l.getD i Spec.any).r v w
theorem specR_mono (l : List Spec) : ∀ i v w w', Later w w' → specR l i v w → specR l i v w' := fun i v w w' => (l.getD i Spec.any).mono v w w'
def AllFrom (p : Nat → Oper → Prop) : Nat → List Oper → Prop
  | _, [] => True
  | k, o :: l => p k o ∧ AllFrom p (k + 1) l
theorem allFrom_get {p : Nat → Oper → Prop} : ∀ {l : List Oper} {k : Nat}, AllFrom p k l → ∀ i o, l[i]? = some o → p (k + i) o
  | [], _, _, i, o, h => by cases h
  | x :: l, k, h, 0, o, ho => by
    injection ho with ho
    subst ho
    exact h.1
  | x :: l, k, h, i + 1, o, ho => by
    have := allFrom_get h.2 i o ho
    rwa [Nat.add_assoc, Nat.add_comm 1 i] at this
theorem steps_all {p : Nat → Oper → Prop} {l : List Oper} (h : AllFrom p 0 l) : ∀ i o, (l.toArray)[i]? = some o → p i o := fun i o ho => by
  have := allFrom_get h i o (by simpa using ho)
  rwa [Nat.zero_add] at this
theorem needs_get {ops : Array Oper} {i j : Nat} (h : (needsD ops i).contains j = true) : j ∈ needsD ops i := by simpa using h
theorem out_get {ops : Array Oper} {t : Nat} (h : (dstL ops).contains t = false) : t ∉ dstL ops := fun h' => by
  have : (dstL ops).contains t = true := by simpa using h'
  rw [h] at this; cases this
theorem wanted_guard {ops : Array Oper} {a : Act} {o : Oper} {j d : Nat} {b : Bool} (hg : o.guard = some (j, b)) (hd : dstD ops j = some d) (hv : a.tmps.getD d undef = .bool b) : Region.wanted o (yielded ops a.tmps) = true := by
  have h2 : a.tmps[d]? = some (.bool b) := by
    rw [Array.getD_eq_getD_getElem?] at hv
    cases h : a.tmps[d]? with
    | none => rw [h] at hv; cases hv
    | some v => rw [h] at hv; exact congrArg some hv
  have h3 : yielded ops a.tmps j = some b := by
    unfold yielded
    rw [show (ops[j]?).bind (·.dst) = some d from hd, Option.bind_some, h2]
  unfold Region.wanted
  rw [hg]
  show (yielded ops a.tmps j == some b) = true
  rw [h3]
  simp
end Go.Proofs.YtpkfenlfgdbkcaaGreatDoor

namespace Go.Proofs.YtpkfenlfgdbkcaaGreatDoor
open Go.RowKit
section
variable {P : Program} {ops : Array Oper} {Q : Exit → Act → World → Prop} {R : Nat → Value → World → Prop} {J : Bool → Value → World → Prop} {row : Option Nat} {w0 : World} {a0 : Act}
/-- What holds while the operations are listed one by one: 'ap' is the one that appends, 'row' the block in which it may write. -/
structure InvA (ops : Array Oper) (R : Nat → Value → World → Prop) (J : Bool → Value → World → Prop) (row : Option Nat) (ap : Nat) (w0 : World) (a0 : Act) (listed : Nat → Bool) (a : Act) (w : World) : Prop where
  grown : w0.grownBy w row
  defers : a.defers = a0.defers
  size : a.tmps.size = a0.tmps.size
  out : ∀ t, t ∉ dstL ops → a.tmps.getD t undef = a0.tmps.getD t undef
  got : ∀ i, i < ops.size → listed i = true → R i (valD ops a i) w
  st : J (listed ap) (if listed ap then valD ops a ap else undef) w
/-- What an operation must do that only makes memory and reads. -/
def StepA (P : Program) (ops : Array Oper) (Q : Exit → Act → World → Prop) (R : Nat → Value → World → Prop) (row : Option Nat) (w0 : World) (a0 : Act) (i : Nat) (o : Oper) : Prop :=
  ∀ a w, w0.grownBy w row → (∀ j ∈ needsD ops i, R j (valD ops a j) w) → (∀ t, t ∉ dstL ops → a.tmps.getD t undef = a0.tmps.getD t undef) → ∀ K : Act → World → Prop, (∀ v w', Later w w' → R i (if o.dst.isSome then v else undef) w' → K (a.put o.dst v) w') →
    if Region.wanted o (yielded ops a.tmps) = true then Oper.wp P o a w K Q else K (a.put o.dst undef) w
/-- What the append must do. -/
def StepAp (P : Program) (ops : Array Oper) (Q : Exit → Act → World → Prop) (R : Nat → Value → World → Prop) (J : Bool → Value → World → Prop) (row : Option Nat) (w0 : World) (a0 : Act) (i : Nat) (o : Oper) : Prop :=
  ∀ a w, w0.grownBy w row → J false undef w → (∀ j ∈ needsD ops i, R j (valD ops a j) w) → (∀ t, t ∉ dstL ops → a.tmps.getD t undef = a0.tmps.getD t undef) → ∀ K : Act → World → Prop, (∀ v w', w.grownBy w' row → R i v w' → J true v w' → K (a.put o.dst v) w') →
    if Region.wanted o (yielded ops a.tmps) = true then Oper.wp P o a w K Q else K (a.put o.dst undef) w
def LastA (P : Program) (ops : Array Oper) (Q : Exit → Act → World → Prop) (R : Nat → Value → World → Prop) (J : Bool → Value → World → Prop) (row : Option Nat) (ap : Nat) (w0 : World) (a0 : Act) (last : Nat) (o : Oper) : Prop :=
  ∀ a w, InvA ops R J row ap w0 a0 (fun j => j != last) a w → ∀ K : Act → World → Prop, (∀ a' w', Q .normal a' w' → K a' w') → if Region.wanted o (yielded ops a.tmps) = true then Oper.wp P o a w K Q else K (a.put o.dst undef) w
theorem InvA.step {listed : Nat → Bool} {a : Act} {w : World} {n i ap : Nat} {o : Oper} (hmono : ∀ i v w w', w0.heap.size ≤ w.heap.size → w.grownBy w' row → R i v w → R i v w') (hJ : ∀ b v w w', Later w w' → J b v w → J b v w') (hc : checkD ops a0.tmps.size = true) (hn : n = a0.tmps.size) (hI : InvA ops R J row ap w0 a0 listed a w) (ho : ops[i]? = some o) (hap : i ≠ ap) (hapd : ap < ops.size)
    {v : Value} {w' : World} (hl : Later w w') (hR : R i (if o.dst.isSome then v else undef) w') : InvA ops R J row ap w0 a0 (fun j => if j = i then true else listed j) (a.put o.dst v) w' := by
  have hi : i < ops.size := (Array.getElem?_eq_some_iff.1 ho).1
  have hd : dstD ops i = o.dst := by unfold dstD; rw [ho]; rfl
  have hval : ∀ j, j < ops.size → j ≠ i → valD ops (a.put o.dst v) j = valD ops a j := fun j hj e => by
    unfold valD
    cases hdj : dstD ops j with
    | none => rfl
    | some d => exact getD_put_ne fun h2 => e (checkD_inj hc hj hi hdj (hd.trans h2))
  have hgr : w.grownBy w' row := grown_below hl.below row
  refine ⟨hI.grown.trans hgr, by rw [defers_put, hI.defers], by rw [size_put, hI.size], fun t ht => ?_, fun j hj hlj => ?_, ?_⟩
  · rw [getD_put_ne (fun e => ht (dstL_mem hi (hd.trans e))), hI.out t ht]
  · by_cases e : j = i
    · subst e
      unfold valD
      rw [hd]
      cases hod : o.dst with
      | none => rw [hod] at hR; exact hR
      | some d =>
        rw [hod] at hR hd
        have := (checkD_dst hc hi hd).1
        show R j ((a.put (some d) v).tmps.getD d undef) w'
        rw [getD_put_same (by rw [hI.size]; exact this)]
        exact hR
    · rw [if_neg e] at hlj
      rw [hval j hj e]
      exact hmono j _ w w' hI.grown.size hgr (hI.got j hj hlj)
  · show J (if ap = i then true else listed ap) (if (if ap = i then true else listed ap) = true then valD ops (a.put o.dst v) ap else undef) w'
    rw [if_neg (fun h => hap h.symm), hval ap hapd (fun h => hap h.symm)]
    exact hJ _ _ w w' hl hI.st
theorem InvA.app {listed : Nat → Bool} {a : Act} {w : World} {ap : Nat} {o : Oper} (hmono : ∀ i v w w', w0.heap.size ≤ w.heap.size → w.grownBy w' row → R i v w → R i v w') (hc : checkD ops a0.tmps.size = true) (hI : InvA ops R J row ap w0 a0 listed a w) (ho : ops[ap]? = some o) (hod : o.dst.isSome = true)
    {v : Value} {w' : World} (hg : w.grownBy w' row) (hR : R ap v w') (hj : J true v w') : InvA ops R J row ap w0 a0 (fun j => if j = ap then true else listed j) (a.put o.dst v) w' := by
  have hi : ap < ops.size := (Array.getElem?_eq_some_iff.1 ho).1
  have hd : dstD ops ap = o.dst := by unfold dstD; rw [ho]; rfl
  obtain ⟨d, hdd⟩ := Option.isSome_iff_exists.1 hod
  have hself : valD ops (a.put o.dst v) ap = v := by
    unfold valD
    rw [hd, hdd]
    have := (checkD_dst hc hi (hd.trans hdd)).1
    show (a.put (some d) v).tmps.getD d undef = v
    rw [getD_put_same (by rw [hI.size]; exact this)]
  refine ⟨hI.grown.trans hg, by rw [defers_put, hI.defers], by rw [size_put, hI.size], fun t ht => ?_, fun j hjs hlj => ?_, ?_⟩
  · rw [getD_put_ne (fun e => ht (dstL_mem hi (hd.trans e))), hI.out t ht]
  · by_cases e : j = ap
    · subst e; rw [hself]; exact hR
    · rw [if_neg e] at hlj
      have : valD ops (a.put o.dst v) j = valD ops a j := by
        unfold valD
        cases hdj : dstD ops j with
        | none => rfl
        | some d => exact getD_put_ne fun h2 => e (checkD_inj hc hjs hi hdj (hd.trans h2))
      rw [this]
      exact hmono j _ w w' hI.grown.size hg (hI.got j hjs hlj)
  · show J (if ap = ap then true else listed ap) (if (if ap = ap then true else listed ap) = true then valD ops (a.put o.dst v) ap else undef) w'
    rw [if_pos rfl, if_pos rfl, hself]
    exact hj
theorem wpAny_invA {last ap : Nat} (hmono : ∀ i v w w', w0.heap.size ≤ w.heap.size → w.grownBy w' row → R i v w → R i v w') (hJ : ∀ b v w w', Later w w' → J b v w → J b v w') (hc : checkD ops a0.tmps.size = true) (hcl : lastD ops last = true) (hapd : decide (ap < ops.size) && decide (ap ≠ last) && ((ops[ap]?).bind (·.dst)).isSome = true)
    (hstep : ∀ i o, ops[i]? = some o → i ≠ last → i ≠ ap → StepA P ops Q R row w0 a0 i o) (happ : ∀ o, ops[ap]? = some o → StepAp P ops Q R J row w0 a0 ap o) (hlast : ∀ o, ops[last]? = some o → LastA P ops Q R J row ap w0 a0 last o) (hend : ops.size ≤ last → ∀ a w, InvA ops R J row ap w0 a0 (fun _ => true) a w → Q .normal a w) :
    ∀ (fuel : Nat) (listed : Array Bool) (a : Act) (w : World), listed.size = ops.size → leftD ops.size listed ≤ fuel → (last < ops.size → listed.getD last true = false) → InvA ops R J row ap w0 a0 (fun i => listed.getD i true) a w → wpAny P .any ops Q fuel listed a w := by
  rw [Bool.and_eq_true, Bool.and_eq_true] at hapd
  obtain ⟨⟨hap1, hap2⟩, hap3⟩ := hapd
  have hap1 := of_decide_eq_true hap1
  have hap2 := of_decide_eq_true hap2
  have hall : ∀ (listed : Array Bool) (a : Act) (w : World), listed.size = ops.size → (last < ops.size → listed.getD last true = false) → InvA ops R J row ap w0 a0 (fun i => listed.getD i true) a w → Region.ready .any ops listed = [] → Q .normal a w := fun listed a w hs hnl hI hr => by
    have key : ∀ i, i < ops.size → listed.getD i true = true := fun i => by
      induction i using Nat.strongRecOn with
      | _ i ih =>
        intro hi
        by_cases hl : listed.getD i true = true
        · exact hl
        · exfalso
          have : i ∈ Region.ready .any ops listed := by
            unfold Region.ready
            rw [List.mem_filter]
            refine ⟨List.mem_range.2 hi, ?_⟩
            have hl' : listed.getD i true = false := by simpa using hl
            rw [hl', Array.getElem?_eq_getElem hi]
            simp only [Bool.not_false, Bool.true_and, Option.map_some, Option.getD_some]
            rw [Array.all_eq_true]
            intro j hj
            cases hb : Region.binds .any (ops[i].after[j]) with
            | false => rfl
            | true =>
              have hn : (ops[i].after[j]).on ∈ needsD ops i := by
                unfold needsD
                rw [Array.getElem?_eq_getElem hi]
                exact List.mem_map.2 ⟨ops[i].after[j], List.mem_filter.2 ⟨by simp, hb⟩, rfl⟩
              have hlt := checkD_needs hc hi hn
              have h1 := ih _ hlt (by omega)
              have : listed.getD (ops[i].after[j]).on false = true := by
                have hs2 : (ops[i].after[j]).on < listed.size := by omega
                simp only [Array.getD, hs2, dif_pos] at h1 ⊢
                exact h1
              rw [this]; rfl
          rw [hr] at this; cases this
    have hle : ops.size ≤ last := by
      rcases Nat.lt_or_ge last ops.size with h | h
      · have h1 := key last h
        rw [hnl h] at h1; cases h1
      · exact h
    have hst := hI.st
    simp only [key ap hap1, if_true] at hst
    exact hend hle a w ⟨hI.grown, hI.defers, hI.size, hI.out, fun i hi _ => hI.got i hi (key i hi), hst⟩
  intro fuel
  induction fuel with
  | zero =>
    intro listed a w hs hf hlf hI
    have hr : Region.ready .any ops listed = [] := by
      rcases h : Region.ready .any ops listed with _ | ⟨i, rs⟩
      · rfl
      · exfalso
        have hi : i ∈ Region.ready .any ops listed := by rw [h]; exact List.mem_cons_self
        unfold Region.ready at hi
        obtain ⟨h1, h2⟩ := List.mem_filter.1 hi
        rw [Bool.and_eq_true] at h2
        have : i ∈ (List.range ops.size).filter fun i => !listed.getD i true := List.mem_filter.2 ⟨h1, h2.1⟩
        unfold leftD at hf
        have := List.length_pos_of_mem this
        omega
    exact ⟨hr, hall listed a w hs hlf hI hr⟩
  | succ fuel ih =>
    intro listed a w hs hf hlf hI
    refine ⟨fun hr => hall listed a w hs hlf hI hr, fun i hi => ?_⟩
    unfold Region.ready at hi
    obtain ⟨h1, h2⟩ := List.mem_filter.1 hi
    rw [Bool.and_eq_true] at h2
    have hi' := List.mem_range.1 h1
    have hnl : listed.getD i true = false := by simpa using h2.1
    obtain ⟨o, ho⟩ : ∃ o, ops[i]? = some o := ⟨_, Array.getElem?_eq_getElem hi'⟩
    have hal : ∀ j ∈ needsD ops i, listed.getD j true = true := fun j hj => by
      unfold needsD at hj
      rw [ho] at hj h2
      obtain ⟨e, he, rfl⟩ := List.mem_map.1 hj
      obtain ⟨he1, he2⟩ := List.mem_filter.1 he
      have h3 := h2.2
      simp only [Option.map_some, Option.getD_some] at h3
      rw [Array.all_eq_true'] at h3
      have h4 := h3 e (by simpa using he1)
      rw [he2] at h4
      simp only [Bool.not_true, Bool.false_or] at h4
      by_cases hs2 : e.on < listed.size
      · simp only [Array.getD, hs2, dif_pos] at h4 ⊢
        exact h4
      · simp only [Array.getD, hs2, dif_neg, not_false_eq_true] at h4
        cases h4
    have hset : ∀ (j : Nat), j < ops.size → (listed.setIfInBounds i true).getD j true = if j = i then true else listed.getD j true := fun j hj => by
      by_cases e : j = i
      · subst e
        simp [Array.getD_eq_getD_getElem?, Array.getElem?_setIfInBounds, show j < listed.size by omega]
      · rw [if_neg e]
        simp [Array.getD_eq_getD_getElem?, Array.getElem?_setIfInBounds, show ¬ i = j from fun h => e h.symm]
    have hrec : ∀ a' w', i ≠ last → InvA ops R J row ap w0 a0 (fun j => if j = i then true else listed.getD j true) a' w' → wpAny P .any ops Q fuel (listed.setIfInBounds i true) a' w' := fun a' w' hil hI' => by
      refine ih _ _ _ (by simpa using hs) ?_ (fun h => by
        have h1 := hlf h
        rw [hset last h, if_neg (fun e => hil e.symm)]
        exact h1) ⟨hI'.grown, hI'.defers, hI'.size, hI'.out, fun j hj hlj => hI'.got j hj (by rw [← hset j hj]; exact hlj), by
          have hst := hI'.st
          show J ((listed.setIfInBounds i true).getD ap true) (if (listed.setIfInBounds i true).getD ap true = true then valD ops a' ap else undef) w'
          rw [hset ap hap1]
          exact hst⟩
      have : leftD ops.size (listed.setIfInBounds i true) < leftD ops.size listed := by
        unfold leftD
        have h3 : i ∈ (List.range ops.size).filter fun j => !listed.getD j true := List.mem_filter.2 ⟨h1, h2.1⟩
        have h4 : ((List.range ops.size).filter fun j => !(listed.setIfInBounds i true).getD j true) = ((List.range ops.size).filter fun j => !listed.getD j true).erase i := by
          rw [List.Nodup.erase_eq_filter (List.Pairwise.filter _ List.nodup_range), List.filter_filter]
          apply List.filter_congr
          intro j hj
          by_cases e : j = i
          · subst e
            simp [Array.getD_eq_getD_getElem?, Array.getElem?_setIfInBounds, show j < listed.size by omega]
          · simp [Array.getD_eq_getD_getElem?, Array.getElem?_setIfInBounds, show ¬ i = j from fun h => e h.symm, e]
        rw [h4, List.length_erase_of_mem h3]
        have := List.length_pos_of_mem h3
        omega
      omega
    have hneed : ∀ j ∈ needsD ops i, R j (valD ops a j) w := fun j hj => hI.got j (by have := checkD_needs hc hi' hj; omega) (hal j hj)
    refine wpOp_step ho fun K hK => ?_
    by_cases hil : i = last
    · subst hil
      have hother : ∀ j, j < ops.size → (j != i) = true → listed.getD j true = true := fun j hj hji => hal j (lastD_needs hcl hi' hj (by simpa using hji))
      have hap4 : listed.getD ap true = true := hother ap hap1 (by simpa using hap2)
      refine hlast o ho a w ⟨hI.grown, hI.defers, hI.size, hI.out, fun j hj hji => hI.got j hj (hother j hj hji), ?_⟩ K (fun a' w' hQ => hK _ _ (wpAny_done ?_ hQ _))
      · have hst := hI.st
        simp only [hap4, if_true] at hst
        have : (ap != i) = true := by simpa using hap2
        simp only [this, if_true]
        exact hst
      rcases h : Region.ready .any ops (listed.setIfInBounds i true) with _ | ⟨k, rs⟩
      · rfl
      · exfalso
        have hk : k ∈ Region.ready .any ops (listed.setIfInBounds i true) := by rw [h]; exact List.mem_cons_self
        unfold Region.ready at hk
        obtain ⟨k1, k2⟩ := List.mem_filter.1 hk
        rw [Bool.and_eq_true] at k2
        have k3 := k2.1
        have k4 := List.mem_range.1 k1
        by_cases e : k = i
        · subst e
          simp [Array.getD_eq_getD_getElem?, Array.getElem?_setIfInBounds, show k < listed.size by omega] at k3
        · have k5 := hother k k4 (by simpa using e)
          simp only [Array.getD_eq_getD_getElem?, Array.getElem?_setIfInBounds, if_neg (show ¬ i = k from fun h => e h.symm)] at k3 k5
          rw [k5] at k3
          cases k3
    · by_cases hia : i = ap
      · subst hia
        have hod : o.dst.isSome = true := by rw [ho] at hap3; exact of_decide_eq_true hap3
        have hst := hI.st
        simp only [hnl, Bool.false_eq_true, if_false] at hst
        exact happ o ho a w hI.grown hst hneed hI.out K (fun v w' hg hR hj => hK _ _ (hrec _ _ hil (hI.app hmono hc ho hod hg hR hj)))
      · exact hstep i o ho hil hia a w hI.grown hneed hI.out K (fun v w' hl hR => hK _ _ (hrec _ _ hil (hI.step hmono hJ hc rfl ho hia hap1 hl hR)))
theorem wp_region_invA {last ap : Nat} (hm : P.follows .mixedOrders = true) {id : Nat} {a0 : Act} {w : World} (hmono : ∀ i v w1 w', w.heap.size ≤ w1.heap.size → w1.grownBy w' row → R i v w1 → R i v w') (hJ : ∀ b v w w', Later w w' → J b v w → J b v w') (hc : checkD ops a0.tmps.size = true) (hcl : lastD ops last = true) (hapd : decide (ap < ops.size) && decide (ap ≠ last) && ((ops[ap]?).bind (·.dst)).isSome = true) (hst : J false undef w.drew)
    (hstep : ∀ i o, ops[i]? = some o → i ≠ last → i ≠ ap → StepA P ops Q R row w.drew a0 i o) (happ : ∀ o, ops[ap]? = some o → StepAp P ops Q R J row w.drew a0 ap o) (hlast : ∀ o, ops[last]? = some o → LastA P ops Q R J row ap w.drew a0 last o) (hend : ops.size ≤ last → ∀ a w', InvA ops R J row ap w.drew a0 (fun _ => true) a w' → Q .normal a w') :
    (Code.region id ops true).wp P Q a0 w := by
  have hap1 : ap < ops.size := by
    rw [Bool.and_eq_true, Bool.and_eq_true] at hapd
    exact of_decide_eq_true hapd.1.1
  have hfalse : (Array.replicate ops.size false).getD ap true = false := by simp [Array.getD, hap1]
  refine wp_region_any hm (wpAny_invA (w0 := w.drew) (fun i v w1 w' h => hmono i v w1 w' h) hJ hc hcl hapd hstep happ hlast hend ops.size _ a0 w.drew (by simp) ?_ (fun h => by simp [Array.getD, h]) ⟨grown_below (Below.refl _ _) row, rfl, rfl, fun _ _ => rfl, fun i hi hl => ?_, ?_⟩)
  · unfold leftD
    refine Nat.le_trans (List.length_filter_le _ _) (by rw [List.length_range]; exact Nat.le_refl _)
  · simp [Array.getD, hi] at hl
  · simp only [hfalse, Bool.false_eq_true, if_false]
    exact hst
end
/-- What a region leaves: the slots that it does not write. -/
theorem tmps_of {a a0 : Array Value} : ∀ {L : List Nat}, a.size = a0.size → (∀ t, t ∉ L → a.getD t undef = a0.getD t undef) → a = L.foldl (fun b t => b.setIfInBounds t (a.getD t undef)) a0
  | [], hs, ho => by
    show a = a0
    refine Array.ext hs fun i h1 h2 => ?_
    have := ho i (by simp)
    rw [Array.getD_eq_getD_getElem?, Array.getD_eq_getD_getElem?, Array.getElem?_eq_getElem h1, Array.getElem?_eq_getElem h2] at this
    exact this
  | x :: L, hs, ho => by
    rw [List.foldl_cons]
    refine tmps_of (L := L) (by simpa using hs) fun t ht => ?_
    by_cases e : t = x
    · subst e
      by_cases h : t < a0.size
      · simp [Array.getD, h, hs]
      · simp [Array.getD, h, hs]
    · rw [ho t (by simp [e, ht])]
      simp [Array.getD_eq_getD_getElem?, Array.getElem?_setIfInBounds, show ¬ x = t from fun h => e h.symm]
/-! ### Facts that last -/
/-- A fact that lasts while blocks from B on stay, and 'row' lies below B. -/
structure SpecA (B : Nat) (row : Option Nat) where
  r : Value → World → Prop
  mono : ∀ v w w', B ≤ w.heap.size → w.grownBy w' row → r v w → r v w'
def SpecA.is {B : Nat} {row : Option Nat} (x : Value) : SpecA B row := ⟨fun v _ => v = x, fun _ _ _ _ _ h => h⟩
def SpecA.any {B : Nat} {row : Option Nat} : SpecA B row := ⟨fun _ _ => True, fun _ _ _ _ _ h => h⟩
theorem grown_blk {w w' : World} {row : Option Nat} {B g : Nat} {o : Obj} (hrow : ∀ k, row = some k → k < B) (hB : B ≤ g) (hg : w.heap[g]? = some o) (h : w.grownBy w' row) : w'.heap[g]? = some o :=
  (h.block g (blk_lt hg) (fun e => absurd (hrow g e.symm) (by omega))).trans hg
/-- f of a new block that holds these cells. -/
def SpecA.blk {B : Nat} {row : Option Nat} (hrow : ∀ k, row = some k → k < B) (f : Nat → Value) (cs : Array Value) (t : TypeId) : SpecA B row :=
  ⟨fun v w => ∃ g, B ≤ g ∧ v = f g ∧ w.heap[g]? = some (.cells cs t (0, 0)), fun _ _ _ _ hg ⟨g, h0, h1, h2⟩ => ⟨g, h0, h1, grown_blk hrow h0 h2 hg⟩⟩
/-- A slice of the region's own. -/
def SpecA.own {B : Nat} {row : Option Nat} (hrow : ∀ k, row = some k → k < B) {α : Type} (f : α → List Value) (s : Nat) (e : TypeId) (mk : Option Addr → Nat → Value) (l : List α) : SpecA B row :=
  ⟨fun v w => ∃ A c, v = mk A c ∧ l.length ≤ c ∧ c ≤ maxLen ∧ Own f s e B w (.slice A l.length c) l, fun _ _ _ _ hg ⟨A, c, h1, h2, h3, h4⟩ => ⟨A, c, h1, h2, h3, h4.kept hg (by
    cases hv : (Value.slice A l.length c).ownBlock with
    | none => exact .inl rfl
    | some g => exact .inr fun e1 => absurd (hrow g e1.symm) (Nat.not_lt.2 (World.ownsRow.lt h4 g hv).1))⟩⟩
def specRA {B : Nat} {row : Option Nat} (l : List (SpecA B row)) (i : Nat) (v : Value) (w : World) : Prop := (l.getD i SpecA.any).r v w
theorem specRA_mono {B : Nat} {row : Option Nat} (l : List (SpecA B row)) : ∀ i v w w', B ≤ w.heap.size → w.grownBy w' row → specRA l i v w → specRA l i v w' := fun i v w w' => (l.getD i SpecA.any).mono v w w'
end Go.Proofs.YtpkfenlfgdbkcaaGreatDoor

namespace Go.Proofs.YtpkfenlfgdbkcaaGreatDoor
open Go.RowKit
section
variable {P : Program} {ops : Array Oper} {Q : Exit → Act → World → Prop}
def Oper.isDefer (o : Oper) : Bool := match o.op with | .defer _ => true | _ => false
theorem oper_round {l n : Nat} {o : Oper} {a : Act} {w : World} {K : Act → World → Prop} (hd : Oper.isDefer o = false) (h : Oper.wp P o a w K Q) : Oper.wpIn (Fence.wide.inRound l) n P o a w K Q := by
  have hs : o.semAt (Fence.wide.inRound l).round a.eval = execOp a.eval o := Oper.semAt_plain _ _ _ fun c hc => by unfold Oper.isDefer at hd; rw [hc] at hd; cases hd
  refine ⟨fun _ _ => trivial, ?_⟩
  rw [hs]
  unfold Oper.wp at h
  generalize (execOp a.eval o).run P w = r at h ⊢
  cases r with
  | ok x w' =>
    cases x with
    | value v => exact h
    | skip => exact h
    | defer d => exact h
    | enter f args => exact ⟨fun h => (by cases h), CallsIn.inRound l (callsIn_wide.2 h)⟩
    | row r args =>
      rw [Oper.upon_row] at h
      rw [Oper.uponIn_row]
      exact ⟨fun h => (by cases h), fun b cs hr => by
        obtain ⟨v, w'', h1, h2⟩ := h b cs
        exact ⟨v, w'', h1, stepsIn_wide.2 h2⟩⟩
    | _ => exact h.elim
  | halt x w' => cases x <;> first | exact h | exact h.elim
theorem wpOp_round {l n i : Nat} {a : Act} {w : World} {K : Act → World → Prop} (hd : ops.all (fun o => !Oper.isDefer o) = true) (hQ : ¬ LetsOut Q) (h : wpOp P ops Q i K a w) : wpOpIn (Fence.wide.inRound l) n P ops Q i K a w := by
  unfold wpOp at h
  unfold wpOpIn
  split
  · simp_all
  · next o ho =>
    simp only [ho] at h
    have hd' : Oper.isDefer o = false := by
      have := Array.all_eq_true_iff_forall_mem.1 hd o (Array.mem_of_getElem? ho)
      simpa using this
    split
    · next hw => simp only [hw, if_true] at h; exact oper_round hd' (h.resolve_right fun k => hQ k.2)
    · next hw => simp only [hw] at h; exact ⟨fun _ _ => trivial, h⟩
theorem wpAny_round {l n : Nat} (hd : ops.all (fun o => !Oper.isDefer o) = true) (hQ : ¬ LetsOut Q) : ∀ (fuel : Nat) (listed : Array Bool) (a : Act) (w : World), wpAny P .any ops Q fuel listed a w → wpAnyIn (Fence.wide.inRound l) n P .any ops Q fuel listed a w
  | 0, _, _, _, h => h
  | fuel + 1, _, _, _, h => ⟨h.1, fun i hi => wpOpIn_mono (fun a' w' h' => wpAny_round hd hQ fuel _ a' w' h') (wpOp_round hd hQ (h.2 i hi))⟩
theorem wpIn_region_round {l n id : Nat} {a : Act} {w : World} (hm : P.follows .mixedOrders = true) (hd : ops.all (fun o => !Oper.isDefer o) = true) (hQ : ¬ LetsOut Q) (h : wpAny P .any ops Q ops.size (Array.replicate ops.size false) a w.drew) : (Code.region id ops true).wpIn (Fence.wide.inRound l) n P Q a w :=
  wpIn_region_any hm (wpAny_round hd hQ _ _ _ _ h)
end
section
variable {P : Program} {ops : Array Oper} {Q : Exit → Act → World → Prop} {R : Nat → Value → World → Prop} {J : Bool → Value → World → Prop} {row : Option Nat}
theorem wpIn_region_invA {l n last ap : Nat} (hm : P.follows .mixedOrders = true) (hd : ops.all (fun o => !Oper.isDefer o) = true) (hQ : ¬ LetsOut Q) {id : Nat} {a0 : Act} {w : World} (hmono : ∀ i v w1 w', w.heap.size ≤ w1.heap.size → w1.grownBy w' row → R i v w1 → R i v w') (hJ : ∀ b v w w', Later w w' → J b v w → J b v w') (hc : checkD ops a0.tmps.size = true) (hcl : lastD ops last = true) (hapd : decide (ap < ops.size) && decide (ap ≠ last) && ((ops[ap]?).bind (·.dst)).isSome = true) (hst : J false undef w.drew)
    (hstep : ∀ i o, ops[i]? = some o → i ≠ last → i ≠ ap → StepA P ops Q R row w.drew a0 i o) (happ : ∀ o, ops[ap]? = some o → StepAp P ops Q R J row w.drew a0 ap o) (hlast : ∀ o, ops[last]? = some o → LastA P ops Q R J row ap w.drew a0 last o) (hend : ops.size ≤ last → ∀ a w', InvA ops R J row ap w.drew a0 (fun _ => true) a w' → Q .normal a w') :
    (Code.region id ops true).wpIn (Fence.wide.inRound l) n P Q a0 w := by
  have hap1 : ap < ops.size := by
    rw [Bool.and_eq_true, Bool.and_eq_true] at hapd
    exact of_decide_eq_true hapd.1.1
  have hfalse : (Array.replicate ops.size false).getD ap true = false := by simp [Array.getD, hap1]
  refine wpIn_region_round hm hd hQ (wpAny_invA (w0 := w.drew) (fun i v w1 w' h => hmono i v w1 w' h) hJ hc hcl hapd hstep happ hlast hend ops.size _ a0 w.drew (by simp) ?_ (fun h => by simp [Array.getD, h]) ⟨grown_below (Below.refl _ _) row, rfl, rfl, fun _ _ => rfl, fun i hi hl => ?_, ?_⟩)
  · unfold leftD
    refine Nat.le_trans (List.length_filter_le _ _) (by rw [List.length_range]; exact Nat.le_refl _)
  · simp [Array.getD, hi] at hl
  · simp only [hfalse, Bool.false_eq_true, if_false]
    exact hst
end
/-- append(xs, y) in a fenced walk, xs the call's own. -/
theorem wpListIn_app1 {α : Type} {f : α → List Value} {s : Nat} {e : TypeId} {base : Nat} {w : World} {v : Value} {l : List α} {F : Fence} {n : Nat} {P : Program} {t : TypeId} {bytes : Nat} {ops : Array Oper} {rest : List Oper} {o : Oper} {a : Act} {Q : Exit → Act → World → Prop} {C : Array Value} (hgd : o.guard = none) (sl x : Operand)
    (ho : o.op = .call { callee := .builtin .append, args := #[sl, x], argTypes := #[t, t] }) (he : Enc f s) (ht : ElemT P t e s bytes) (y : α) {H : Nat} (hs : a.eval sl = v) (hx : a.eval x = .slice (some ⟨H, 0, none⟩) 1 1) (hH : w.heap.size = H) (hown : Own f s e base w v l) (hc : C.toList = f y)
    (hbytes : (l.length + 1) * bytes ≤ 140737488355328) (h63 : l.length + 1 ≤ maxLen) (hbase : base ≤ w.heap.size)
    (h : ∀ A' c' w', Own f s e base w' (.slice A' (l.length + 1) c') (l ++ [y]) → Step w w' v (.slice A' (l.length + 1) c') → Below base w w' → wpListIn F n P ops Q rest (a.put o.dst (.slice A' (l.length + 1) c')) w') : wpListIn F n P ops Q (o :: rest) a (w.alloc (.cells C e)) := by
  subst hH
  have hb : Below w.heap.size w (w.alloc (.cells C e)) := (Below.refl _ _).alloc (Nat.le_refl _) _
  have hsrc : SlAt f s (w.alloc (.cells C e)) (some ⟨w.heap.size, 0, none⟩) [y] := blk_slAt he (fr := (0, 0)) (heap_alloc_new w _) [y] (by simpa using hc)
  have ho1 := hown.below hb
  refine wpListIn_plain hgd fun K hK => ?_
  obtain ⟨v', w', hrun, h2, h3, h4⟩ := run_app (P := P) (ty := o.type) he ht ho1 (some ⟨w.heap.size, 0, none⟩) 1 [y] hsrc (by simpa using hbytes) (by simpa using h63) (by simp; omega)
  obtain ⟨A', c', rfl, -, -, -⟩ := h2.slAt he
  rw [List.length_append, List.length_singleton] at h2 hrun h4
  have hst : Step w w' v (.slice A' (l.length + 1) c') := by
    refine ⟨(World.grownBy_alloc w (.cells C e) v.ownBlock).trans h3, ?_⟩
    rcases h4 with h4 | h4
    · exact .inl h4
    · exact .inr ⟨(w.alloc (.cells C e)).heap.size, by simp, h4⟩
  have hbb : Below base w w' := ho1.belowGrown (hb.mono hbase) h3 (Nat.le_refl _) (by simp; omega)
  unfold Oper.wpIn
  refine ⟨?_, ?_⟩
  · simp [Oper.about, ho, resolve, Target.leads, Sem.run_pure]
  · rw [Oper.semAt_plain F _ _ (by rw [ho]; intro c hc'; cases hc')]
    simp only [execOp, ho, resolve, invoke, builtin, Sem.run_bind, Sem.run_pure, Result.andThen_ok, List.map_toArray, List.map_cons, List.map_nil, hs, hx, hrun]
    exact hK _ _ (h A' c' w' h2 hst hbb)
/-- A slice built from its elements. -/
theorem own_built {α : Type} {f : α → List Value} {s : Nat} {e : TypeId} {base : Nat} {w : World} {l : List α} {C : Array Value} {g n : Nat} (he : Enc f s) (hg : w.heap[g]? = some (.cells C e (0, 0))) (hb : base ≤ g) (hn : l.length = n) (hc : C.toList = l.flatMap f) (hm : n ≤ maxLen) : Own f s e base w (.slice (some ⟨g, 0, none⟩) n n) l := by
  subst hn
  refine ⟨he.flat_length l, .inr ⟨g, l.length, C, rfl, hb, hg, Nat.le_refl _, hm, ?_, ?_⟩⟩
  · rw [← Array.length_toList, hc, he.flat_length]
  · rw [hc, ← he.flat_length, List.take_length]
theorem wpIn_name {F : Fence} {n : Nat} {P : Program} {c : Code} {Q : Exit → Act → World → Prop} {a : Act} {W : World} (h : ∀ w0, W = w0 → c.wpIn F n P Q a w0) : c.wpIn F n P Q a W := h W rfl
end Go.Proofs.YtpkfenlfgdbkcaaGreatDoor

namespace Go.Proofs.YtpkfenlfgdbkcaaGreatDoor
open Go.RowKit
attribute [local go_sem] Oper.semAt_some Instr.makeFunc
attribute [local simp] heap_drew
attribute [local go_sem ↓] load_view_pre load_flight_pre load_msg_pre store_view_pre store_flight_pre store_msg_pre load_scion_pre store_scion_pre
attribute [local go_sem] load_view load_flight load_msg store_view store_flight store_msg load_scion store_scion view_isRow zero_isRow scion_isRow zeroS_isRow rowFree_new setRow_new view_arr0 view_arr2 view_arr3 view_arr4 view_arr5 view_arr6 view_arr9 view_arr10 flight_arr0 flight_arr1 flight_arr2 flight_arr3 flight_arr6 flight_arr7 flight_arr8 flight_arr9 flight_arr10 flight_arr11 flight_arr12 flight_arr13 flight_arr17 flight_arr18 flight_arr19 flight_arr20 flight_arr21 flight_arr22 flight_arr23 flight_arr24 flight_arr25 msg_arr0 msg_arr1 msg_arr4 msg_arr5 msg_arr6 msg_arr7 msg_arr8 msg_arr9 msg_arr10 msg_arr11 msg_arr15 msg_arr16 msg_arr17 msg_arr18 msg_arr19 msg_arr20 msg_arr21 msg_arr22 msg_arr23
attribute [local go_sem ↓] run_eql_id run_neq_id
def ValPost (V : List ViewE) (frm dst : Int) (x : RefE) (w : World) (r : Ending) (w' : World) : Prop := r = .returned (refVal V frm dst x).v ∧ Below w.heap.size w w'
theorem valRow : Tryz.prog.underlying 100 = some (.struct (Tryz.prog.fieldsOf 100)) := by kernel_rfl
theorem valN : (Tryz.prog.info? 100).map (·.size) = some 4 := by kernel_rfl
/-- A value in the cells of a result. -/
theorem val_res {w w0 u : World} {g : Nat} (hg : w.heap.size ≤ g) (hw : Later w u) [Later w0 u] (B : Boxed w0 g #[.int .i64 0, .int .i64 0, .int .i64 0, .int .i64 0] 100) (e : ValE) {W : World} (h : W = (((u.setCell ⟨g, 0, none⟩ (.int .i64 e.kind)).setCell ⟨g, 1, none⟩ (.int .i64 e.int)).setCell ⟨g, 2, none⟩ (.int .i64 e.refMachine)).setCell ⟨g, 3, none⟩ (.int .i64 e.refSerial)) :
    (loadVar 100 ⟨g, 0, none⟩).run Tryz.prog W = .ok e.v W ∧ Below w.heap.size w W := by
  subst h
  have q := blk_set (blk_set (blk_set (blk_set (B u).1 0 (.int .i64 e.kind)) 1 (.int .i64 e.int)) 2 (.int .i64 e.refMachine)) 3 (.int .i64 e.refSerial)
  exact ⟨loadVar_row valRow valN rfl q, (((hw.below.setCell (p := ⟨_, 0, none⟩) hg _).setCell (p := ⟨_, 1, none⟩) hg _).setCell (p := ⟨_, 2, none⟩) hg _).setCell (p := ⟨_, 3, none⟩) hg _⟩
set_option maxRecDepth 100000 in
set_option maxHeartbeats 4000000 in
theorem value_any (A : Option Addr) (c : Nat) (V : List ViewE) (g : Nat) (frm dst : Int) (x : RefE) (w : World) (H : ViewsAt w A V) (hM : FleetM w g V) (hf : FewV V) :
    Calls Tryz.prog 36 #[fleetV A c V g, .int .i64 frm, .int .i64 dst, x.v] w (ValPost V frm dst x w) := by
  have hl := hf.l
  have HV := H.later
  have HM := hM.later
  have HN : ∀ u [Later w u], Calls Tryz.prog 42 #[fleetV A c V g, .int .i64 frm, .int .i64 dst, x.v] u (IdPost V frm dst x u) := fun u i => id_any A c V g frm dst x u (HV u) (HM u) hf
  unfold IdPost at HN
  unfold ValPost
  have Hr := hide (show refVal V frm dst x = if x.kind = 1 then ⟨1, x.int, 0, 0⟩ else if refId V frm dst x = zeroI then ⟨0, 0, 0, 0⟩ else ⟨2, 0, (refId V frm dst x).machine, (refId V frm dst x).serial⟩ from rfl)
  generalize refVal V frm dst x = R at Hr ⊢
  generalize refId V frm dst x = N at Hr HN
  obtain ⟨q1, hq1⟩ : ∃ q, (x.kind == 1) = q := ⟨_, rfl⟩
  obtain ⟨q0, hq0⟩ : ∃ q, ideq N.machine N.serial 0 0 = q := ⟨_, rfl⟩
  have H1 : Hid (x.kind = 1 ↔ q1 = true) := hide (by rw [← hq1]; simp)
  have H0 : Hid (N = zeroI ↔ q0 = true) := hide (by rw [← hq0, show ideq N.machine N.serial 0 0 = decide (N = zeroI) from @ideq_iff N zeroI]; simp)
  go_enter Tryz.func36, Tryz.ntmps36
  go_upto_region 1 with fail
  refine wp_name ?_
  intro w0 hw0
  obtain ⟨B0, B1, B2, l0⟩ := box3 hw0
  have l00 : Later w0 w0 := Later.refl
  clear hw0
  go_upto_region 2 with (go_at_call 42; refine (HN _).mono ?_; rintro r w1 ⟨rfl, hb1⟩; have l1 := later hb1)
  refine wp_name ?_
  intro w2 hw2
  obtain ⟨B3, l2⟩ := box1 hw2
  have l22 : Later w2 w2 := Later.refl
  clear hw2
  have lw2 : Later w w2 := by infer_instance
  have l02 : Later w0 w2 := by infer_instance
  cases q1
  · cases q0
    · go_wp2_with fail
      obtain ⟨h1, h2⟩ := val_res (show w.heap.size ≤ w.heap.size + 1 + 1 by omega) lw2 B2 ⟨2, 0, N.machine, N.serial⟩ rfl
      exact bodyPost_ret (results_cell rfl rfl h1) rfl ⟨by rw [Hr.out, if_neg (by rw [H1.out]; simp), if_neg (by rw [H0.out]; simp)], h2⟩
    · go_wp2_with fail
      obtain ⟨h1, h2⟩ := val_res (show w.heap.size ≤ w.heap.size + 1 + 1 by omega) lw2 B2 ⟨0, 0, 0, 0⟩ rfl
      exact bodyPost_ret (results_cell rfl rfl h1) rfl ⟨by rw [Hr.out, if_neg (by rw [H1.out]; simp), if_pos (H0.out.2 (by first | trivial | rfl))], h2⟩
  · go_wp2_with fail
    obtain ⟨h1, h2⟩ := val_res (show w.heap.size ≤ w.heap.size + 1 + 1 by omega) lw2 B2 ⟨1, x.int, 0, 0⟩ rfl
    exact bodyPost_ret (results_cell rfl rfl h1) rfl ⟨by rw [Hr.out, if_pos (H1.out.2 (by first | trivial | rfl))], h2⟩
/-! ### The flights on their way, one after the other -/
/-- A view of the fleet and one of its flights. -/
abbrev FlX (V : List ViewE) := { p : ViewE × FlightE // p.1 ∈ V ∧ p.2 ∈ p.1.flights }
def FlX.encs {V : List ViewE} (p : FlX V) : Array Value := #[p.1.1.v, p.1.2.v]
/-- What a round that goes on keeps: what lies below B, and each view and fleet that lies in a variable. -/
def KpV (B : Nat) (W W' : World) : Prop := Below B W W' ∧ ∀ (k : Nat) (cs : Array Value) (t : TypeId), (t = 64 ∨ t = 93) → W.heap[k]? = some (.cells cs t (0, 0)) → W'.heap[k]? = some (.cells cs t (0, 0))
theorem KpV.trans {B : Nat} {X Y Z : World} (h : KpV B X Y) (k : KpV B Y Z) : KpV B X Z := ⟨h.1.trans k.1, fun j cs t ht hj => k.2 j cs t ht (h.2 j cs t ht hj)⟩
theorem KpV.of_below {B : Nat} {W W' : World} (h : Below W.heap.size W W') (hB : B ≤ W.heap.size) : KpV B W W' := ⟨h.mono hB, fun k cs t _ hk => blk_below hk h⟩
theorem KpV.putObj {B : Nat} {W : World} {l : Nat} {o o' : Obj} (hB : B ≤ l) (hl : W.heap[l]? = some o) (ho : o.isCells = false) : KpV B W (W.putObj l o') :=
  ⟨putObj_below (Below.refl _ _) hB, fun k cs t _ hk => by
    have hne : k ≠ l := fun e => by subst e; rw [hk] at hl; injection hl with hl; subst hl; cases ho
    rw [putObj_eq, putAt_heap hne]; exact hk⟩
def flightsP (V L : List ViewE) : List (ViewE × FlightE) := L.flatMap fun v => (v.flights.filter (flyB V v)).map fun x => (v, x)
theorem flightsP_all (V : List ViewE) : flightsP V V = flightsOf V := rfl
theorem flightsP_take {V L : List ViewE} {k : Nat} {v : ViewE} (h : L[k]? = some v) : flightsP V (L.take (k + 1)) = flightsP V (L.take k) ++ (v.flights.filter (flyB V v)).map fun x => (v, x) := by
  unfold flightsP; rw [take_snoc_get h, List.flatMap_append]; simp
theorem flightsP_len {V : List ViewE} : ∀ {L : List ViewE}, (∀ v ∈ L, v.flights.length ≤ 6) → (flightsP V L).length ≤ 6 * L.length
  | [], _ => by simp [flightsP]
  | v :: L, h => by
    have ih := flightsP_len (V := V) (L := L) fun u hu => h u (List.mem_cons_of_mem _ hu)
    have h1 := h v List.mem_cons_self
    have h2 := List.length_filter_le (flyB V v) v.flights
    unfold flightsP at ih ⊢
    rw [List.flatMap_cons, List.length_append, List.length_map, List.length_cons]
    omega
theorem flightsP_pre {V : List ViewE} (k : Nat) : flightsP V (V.take k) <+: flightsOf V := ⟨flightsP V (V.drop k), by
  rw [← flightsP_all]
  unfold flightsP
  rw [← List.flatMap_append, List.take_append_drop]⟩
/-- The flights of the first k views, and of the next one's first j flights. -/
def flightsK (V : List ViewE) (k : Nat) (v : ViewE) (j : Nat) : List (ViewE × FlightE) := flightsP V (V.take k) ++ ((v.flights.take j).filter (flyB V v)).map fun x => (v, x)
theorem flightsK_pre {V : List ViewE} {k : Nat} {v : ViewE} (h : V[k]? = some v) (j : Nat) : flightsK V k v j <+: flightsOf V := by
  refine List.IsPrefix.trans ?_ (flightsP_pre (k + 1))
  rw [flightsP_take h]
  unfold flightsK
  refine ⟨((v.flights.drop j).filter (flyB V v)).map fun x => (v, x), ?_⟩
  rw [List.append_assoc, ← List.map_append, ← List.filter_append, List.take_append_drop]
theorem flightsK_len {V : List ViewE} (hf : FewV V) {k j : Nat} {v : ViewE} (hv : V[k]? = some v) (hj : j < v.flights.length) : (flightsK V k v j).length < 30 := by
  have h1 := flightsP_len (V := V) (L := V.take k) fun u hu => (hf.v u (List.mem_of_mem_take hu)).f
  have hk := (List.getElem?_eq_some_iff.1 hv).1
  have hl := hf.l
  have h2 := List.length_filter_le (flyB V v) (v.flights.take j)
  have h3 := (hf.v v (List.mem_of_getElem? hv)).f
  rw [List.length_take] at h1 h2
  unfold flightsK
  rw [List.length_append, List.length_map]
  omega
theorem flightsK_snoc {V : List ViewE} {k j : Nat} {v : ViewE} {x : FlightE} (hx : v.flights[j]? = some x) : flightsK V k v (j + 1) = if flyB V v x then flightsK V k v j ++ [(v, x)] else flightsK V k v j := by
  unfold flightsK
  rw [take_snoc_get hx, List.filter_append, List.map_append]
  cases h : flyB V v x <;> simp [h]
set_option maxRecDepth 100000 in
set_option maxHeartbeats 8000000 in
theorem flights1_in (n : Nat) (hn : 1 ≤ n) (l Bs : Nat) (A : Option Addr) (c : Nat) (V : List ViewE) (g : Nat) (W0 : World) (H : ViewsAt W0 A V) (hM : FleetM W0 g V) (hf : FewV V) (J Jx : List (FlX V) → World → Prop) (B0 : Nat) (hJ : AbidesFrom B0 J)
    (hY : ∀ pre x W, J pre W → pre.length < 30 → YieldAt Fence.wide (n - 1) Tryz.prog l x.encs W fun e W' =>
      (e = .returned (.bool true) ∧ J (pre ++ [x]) W' ∧ KpV W0.heap.size W W') ∨ (e = .returned (.bool false) ∧ Jx (pre ++ [x]) W'))
    (W : World) (hW : Below W0.heap.size W0 W) (hBs : W.heap[Bs]? = some (.cells #[.slice A V.length c, .map (some g)] 93 (0, 0))) (h0 : J [] W) :
    CallsIn Fence.wide n Tryz.prog 64 #[.func (.yield l) #[] #[], .pointer (some ⟨Bs, 0, none⟩)] W fun e W' => (∃ v, e = .returned v) ∧
      ((∃ ys, ys.map Subtype.val = flightsOf V ∧ J ys W') ∨ (∃ pre, pre.map Subtype.val <+: flightsOf V ∧ Jx pre W')) := by
  have hl := hf.l
  have HB := boxed hBs
  have hB0 : W.cell? ⟨Bs, 0, none⟩ = some (.slice A V.length c) := blk_cell hBs 0
  refine callsIn_of_wp Tryz.func64 rfl trivial ?_ rfl
  simp only [Tryz.ntmps64, List.size_toArray, List.length_cons, List.length_nil, Nat.reduceAdd, Nat.reduceSub, Array.replicate_succ, Array.replicate_zero, List.push_toArray, List.append_toArray, List.nil_append, List.cons_append]
  gi_wp2
  gi_loopw [10] (fun i wr => ∃ (k : Nat) (pre : List (FlX V)), k ≤ V.length ∧ i = .int .i64 k ∧ Hid (pre.map Subtype.val = flightsP V (V.take k)) ∧ J pre wr ∧ Below W0.heap.size W0 wr ∧ wr.heap[Bs]? = some (.cells #[.slice A V.length c, .map (some g)] 93 (0, 0)))
    (fun i _ => V.length - (intOf i).toNat)
  case atStart => exact ⟨0, [], Nat.zero_le _, rfl, hide rfl, h0, hW, hBs⟩
  case round =>
    clear HB hB0 hBs h0 hW
    obtain ⟨k, pre, hk, rfl, hpre, hJs, hnx, hBr⟩ := hrel
    have lr : Later W0 wr := ⟨hnx⟩
    have lrr : Later wr wr := Later.refl
    have HB := boxed hBr
    obtain ⟨wO, rfl⟩ : ∃ z, z = wr := ⟨_, rfl⟩
    by_cases hlt : k < V.length
    · obtain ⟨b, o, v, rfl, hv, hmem, LV, -, -, -, hvo⟩ := (H.later wO).get hlt
      have hki : (k : Int) < (V.length : Int) := by omega
      have hfo := (hf.v v hmem).f
      obtain ⟨fA, hfA⟩ : ∃ fA, v.fA = fA := ⟨_, rfl⟩
      gi_wp2
      have hbv : (wO.alloc (.cells v.arr 64)).heap[wO.heap.size]? = some (.cells v.arr 64 (0, 0)) := heap_alloc_new _ _
      have hJ1 : J pre (wO.alloc (.cells v.arr 64)) := hJ pre wO _ none hJs (grown_below ((Below.refl _ _).alloc (Nat.le_refl _) _) none) (fun r h => by cases h)
      have hb1 : Below W0.heap.size W0 (wO.alloc (.cells v.arr 64)) := hnx.alloc hnx.size _
      have hB1 : (wO.alloc (.cells v.arr 64)).heap[Bs]? = some (.cells #[.slice (some ⟨b, o, none⟩) V.length c, .map (some g)] 93 (0, 0)) := blk_below hBr ((Below.refl _ _).alloc (Nat.le_refl _) _)
      have hpre1 := hide (show pre.map Subtype.val = flightsK V k v 0 by rw [hpre.out]; unfold flightsK; simp)
      gi_loopw [17] (fun i wq => ∃ (j : Nat) (pre : List (FlX V)), j ≤ v.flights.length ∧ i = .int .i64 j ∧ Hid (pre.map Subtype.val = flightsK V k v j) ∧ J pre wq ∧ Below W0.heap.size W0 wq ∧ wq.heap[Bs]? = some (.cells #[.slice (some ⟨b, o, none⟩) V.length c, .map (some g)] 93 (0, 0)) ∧ wq.heap[wO.heap.size]? = some (.cells v.arr 64 (0, 0)))
        (fun i _ => v.flights.length - (intOf i).toNat)
      case atStart => exact ⟨0, pre, Nat.zero_le _, rfl, hpre1, hJ1, hb1, hB1, hbv⟩
      case round =>
        clear hbv hJ1 hb1 hB1 hpre1 hJs hnx hBr HB lr lrr
        obtain ⟨j, pre, hj, rfl, hpre, hJs, hnx, hBr, hbv⟩ := hrel
        have lrr : Later wr wr := Later.refl
        have HB := boxed hBr
        have HBV := boxed hbv
        have HRV : ∀ u [Later wr u], rowOf u wO.heap.size 0 13 = some v.arr := (ViewE.box HBV).2.2.2.2.2.2.2
        by_cases hlt2 : j < v.flights.length
        · have hok : ViewOk wr v := (H.v v hmem).below hnx
          obtain ⟨fb, fo, x, hfA2, hx, hxm, hxo, hxr, RX, -, -, -⟩ := flights_get hok.f hok.g hlt2
          rw [hfA] at hfA2
          subst hfA2
          have HFl : ∀ u [Later wr u], Calls Tryz.prog 65 #[fleetV (some ⟨b, o, none⟩) c V g, v.v, x.v] u fun r w' => r = .returned (.bool (flyB V v x)) ∧ Below u.heap.size u w' := fun u i => by
            have hbu : Below W0.heap.size W0 u := hnx.trans (i.below.mono hnx.size)
            exact flying_any (some ⟨b, o, none⟩) c V g v x u (H.below hbu) (hM.below hbu) hf (hxo u)
          have hji : (j : Int) < (v.flights.length : Int) := by omega
          have hlen : pre.length < 30 := by have := flightsK_len hf hv hlt2; rw [← hpre.out, List.length_map] at this; exact this
          have Hx := hide hx
          clear hx
          have hxw : ∀ u [Later wr u], rowOf (u.alloc (.cells x.arr 87)) u.heap.size 0 41 = some x.arr := fun u i => rowOf_eq (FlightE.arr_size (hxo u)) fun jj y hy => by rw [Nat.zero_add, blk_cell (heap_alloc_new u _)]; exact hy
          cases hq : flyB V v x with
          | false =>
            have hsn := hide (show flightsK V k v (j + 1) = flightsK V k v j by rw [flightsK_snoc Hx.out, hq]; rfl)
            simp only [hq] at HFl
            gi_wp2_with (refine ⟨trivial, ?_⟩; gi_at_call 65; refine (callsIn_wide.2 (HFl _)).mono ?_; rintro r w3 ⟨rfl, hb3⟩; have l3 := later hb3)
            refine ⟨fun _ h => (by cases h), ?_⟩
            gi_wp2
            go_roundw
            case rel =>
              have hb : Below wr.heap.size wr w3 := below_of
              exact ⟨j + 1, pre, by omega, by go_num, hide (by rw [hsn.out]; exact hpre.out), hJ pre wr _ none hJs (grown_below hb none) (fun r h => by cases h), hnx.trans (hb.mono hnx.size), blk_below hBr hb, blk_below hbv hb⟩
            case measure => simp [intOf]; omega
          | true =>
            have hsn := hide (show flightsK V k v (j + 1) = flightsK V k v j ++ [(v, x)] by rw [flightsK_snoc Hx.out, hq]; rfl)
            simp only [hq] at HFl
            gi_wp2_with (refine ⟨trivial, ?_⟩; gi_at_call 65; refine (callsIn_wide.2 (HFl _)).mono ?_; rintro r w3 ⟨rfl, hb3⟩; have l3 := later hb3; have RX3 := FlightE.row (boxed (blk_below (heap_alloc_new wr (.cells x.arr 87 (0, 0))) hb3)) (hxo wr); have hbw3 : Below wr.heap.size wr w3 := below_of; obtain ⟨fn, tmps, assign, body, hy, hR⟩ := hY pre ⟨(v, x), hmem, hxm⟩ w3 (hJ pre wr _ none hJs (grown_below hbw3 none) (fun r h => by cases h)) hlen; dsimp only [FlX.encs] at hy)
            refine hR.mono ?_
            rintro e W3 (⟨rfl, hJ3, hk3⟩ | ⟨rfl, hJx3⟩)
            · gi_wp2
              go_roundw
              case rel =>
                have hb0 : Below W0.heap.size W0 w3 := hnx.trans (hbw3.mono hnx.size)
                exact ⟨j + 1, _, by omega, by go_num, hide (by rw [hsn.out, List.map_append, hpre.out]; rfl), hJ3, hb0.trans hk3.1, hk3.2 _ _ _ (.inr rfl) (blk_below hBr hbw3), hk3.2 _ _ _ (.inl rfl) (blk_below hbv hbw3)⟩
              case measure => simp [intOf]; omega
            · gi_wp2
              refine bodyPost_ret (results_none rfl _ _ _) rfl ?_
              refine ⟨⟨_, rfl⟩, .inr ⟨_, ?_, hJx3⟩⟩
              rw [List.map_append, hpre.out, show [(⟨(v, x), hmem, hxm⟩ : FlX V)].map Subtype.val = [(v, x)] from rfl]
              have := flightsK_pre hv (j + 1)
              rw [hsn.out] at this
              simpa using this
        · have hj' : j = v.flights.length := by omega
          subst hj'
          have hpe := hide (show pre.map Subtype.val = flightsP V (V.take (k + 1)) by rw [hpre.out, flightsP_take hv]; unfold flightsK; rw [List.take_length])
          gi_wp2
          go_roundw
          case rel => exact ⟨k + 1, pre, by omega, by go_num, hpe, hJs, hnx, hBr⟩
          case measure => simp [intOf]; omega
    · obtain rfl : k = V.length := by omega
      have hpe := hpre.out
      rw [List.take_length] at hpe
      gi_wp2
      go_end0
      exact ⟨⟨_, rfl⟩, .inl ⟨pre, hpe, hJs⟩⟩
theorem flights_mk (A : Option Addr) (c : Nat) (V : List ViewE) (g : Nat) (w : World) :
    Calls Tryz.prog 35 #[fleetV A c V g] w fun e w' => e = .returned (.func (.func 64) #[] #[.pointer (some ⟨w.heap.size, 0, none⟩)]) ∧ w' = w.alloc (.cells #[.slice A V.length c, .map (some g)] 93) := by
  go_enter Tryz.func35, Tryz.ntmps35
  go_wp2
  go_ret
  exact ⟨rfl, rfl⟩
theorem flights_stops (n : Nat) (hn : 1 ≤ n) (Bs : Nat) (A : Option Addr) (c : Nat) (V : List ViewE) (g : Nat) (W0 : World) (H : ViewsAt W0 A V) (hM : FleetM W0 g V) (hf : FewV V) (W1 : World) (hW1 : Below W0.heap.size W0 W1) (hBs : W1.heap[Bs]? = some (.cells #[.slice A V.length c, .map (some g)] 93 (0, 0))) :
    SeqStopsK Fence.wide n Tryz.prog 64 #[.pointer (some ⟨Bs, 0, none⟩)] FlX.encs (KpV W0.heap.size) (fun ys : List (FlX V) => ys.map Subtype.val = flightsOf V) (fun pre => pre.map Subtype.val <+: flightsOf V) 30 W1 := fun l J Jx W hW hJ _ hY h0 =>
  flights1_in n hn l Bs A c V g W0 H hM hf J Jx _ hJ hY W (hW1.trans (hW.mono hW1.size)) (blk_below hBs hW) h0
def allocs (W : World) (l : List (Array Value × TypeId)) : World := l.foldl (fun W p => W.alloc (.cells p.1 p.2)) W
theorem allocs_size (l : List (Array Value × TypeId)) : ∀ W : World, (allocs W l).heap.size = W.heap.size + l.length := by
  induction l with
  | nil => intro W; rfl
  | cons p l ih => intro W; show (allocs (W.alloc _) l).heap.size = _; rw [ih, World.size_alloc, List.length_cons]; omega
theorem allocs_below (l : List (Array Value × TypeId)) : ∀ (W W0 : World) (B : Nat), Below B W0 W → B ≤ W.heap.size → Below B W0 (allocs W l) := by
  induction l with
  | nil => intro W W0 B h _; exact h
  | cons p l ih => intro W W0 B h hB; exact ih _ _ _ (h.alloc hB _) (by simp; omega)
theorem allocs_get (l : List (Array Value × TypeId)) : ∀ (W : World) (i : Nat) (c : Array Value) (t : TypeId), l[i]? = some (c, t) → (allocs W l).heap[W.heap.size + i]? = some (.cells c t (0, 0)) := by
  induction l with
  | nil => intro W i c t h; cases h
  | cons p l ih =>
    intro W i c t h
    cases i with
    | zero =>
      injection h with h
      subst h
      exact blk_below (heap_alloc_new W _) (allocs_below l _ _ _ (Below.refl _ _) (Nat.le_refl _))
    | succ i =>
      have := ih (W.alloc (.cells p.1 p.2)) i c t h
      rw [World.size_alloc] at this
      rw [show W.heap.size + (i + 1) = W.heap.size + 1 + i by omega]
      exact this
theorem ownFrom_allocs {β : Type} {B : Nat} {I : β → World → Prop} (hI : OwnFrom B I) {s : β} (l : List (Array Value × TypeId)) : ∀ W : World, I s W → I s (allocs W l) := by
  induction l with
  | nil => intro W h; exact h
  | cons p l ih => intro W h; exact ih _ (hI.alloc _ h)
/-- How a round is left: it goes on, or it returns. -/
def roundPost {α : Type} (Bl B : Nat) (I Ir : List α → World → Prop) (xs : List α) (W : World) (e : Exit) (_ : Act) (W' : World) : Prop := (e = .normal ∧ KeepsFrom Bl W W' ∧ KpV B W W' ∧ I xs W') ∨ (e = .ret ∧ KeepsFrom Bl W W' ∧ Ir xs W')
theorem roundPost_lets {α : Type} {Bl B : Nat} {I Ir : List α → World → Prop} {xs : List α} {W : World} : ¬ LetsOut (roundPost Bl B I Ir xs W) := by
  rintro ⟨a, w, ⟨h, _⟩ | ⟨h, _⟩⟩ <;> cases h
/-- A range over the flights: the loop's variables are boxed; the body goes on, or returns. -/
theorem wp_rangeV {P : Program} {α : Type} {g : Operand} {ps : Array Tmp} {assign body : Code} {Q : Exit → Act → World → Prop} {a : Act} {w : World} {gf : Nat} {lb : Array Value} (hg : a.eval g = .func (.func gf) #[] lb) (eg : ∀ args w, (callFunc gf args).run P w = .ok (.enter gf args) w)
    {encs : α → Array Value} {B : Nat} {S Sp : List α → Prop} {N : Nat} {w0 : World} (hseq : SeqStopsK Fence.wide 8 P gf lb encs (KpV B) S Sp N w0) (hB : B ≤ w.heap.size) (hb0 : Below w0.heap.size w0 w) (hps : ∀ x, (encs x).size = ps.size)
    (I Ir : List α → World → Prop) (hI : OwnFrom w.heap.size I) (hIr : OwnFrom w.heap.size Ir) (hIs : ∀ pre W, I pre W → w.heap.size ≤ W.heap.size) (h0 : I [] w) {blks : α → List (Array Value × TypeId)} {tm : α → Nat → Array Value}
    (hassign : ∀ (l : Nat) (x : α) (W : World) (Bx : Nat) (K : Act → World → Prop), W.heap.size = Bx → (∀ a', a' = { tmps := tm x Bx, defers := [] } → K a' (allocs W (blks x))) →
      assign.wpIn (Fence.wide.inRound l) 7 P (Exit.then K (fun _ _ _ => False)) { tmps := (ps.zip (encs x)).foldl (fun t (p, v) => t.setIfInBounds p v) a.tmps, defers := [] } W)
    (hbody : ∀ (l : Nat) (pre : List α) (x : α) (Bx : Nat) (W : World), w.heap.size ≤ Bx → (∀ i c t, (blks x)[i]? = some (c, t) → W.heap[Bx + i]? = some (.cells c t (0, 0))) → I pre W → pre.length < N →
      body.wpIn (Fence.wide.inRound l) 7 P (roundPost w.heap.size B I Ir (pre ++ [x]) W) { tmps := tm x Bx, defers := [] } W)
    (hdone : ∀ (D : Nat) (xs : List α) (W : World), w.heap.size ≤ D → S xs → I xs W → W.heap[D]? = some (.deferred (some [])) → Q .normal { a with defers := { target := .collected D, args := #[] } :: a.defers } W)
    (hstop : ∀ (D : Nat) (pre : List α) (W : World), w.heap.size ≤ D → Sp pre → Ir pre W → W.heap[D]? = some (.deferred (some [])) → Q .ret { a with defers := { target := .collected D, args := #[] } :: a.defers } W) :
    (Code.rangeFunc g ps assign body).wp P Q a w := by
  refine (wpIn_wide (n := 9)).1 (wpIn_rangeFunc_ownH (F := Fence.wide) rfl (by omega) hg trivial eg hseq (fun h k => h.trans k) (fun W l o o' hl ho hc _ => KpV.putObj (by omega) ho hc) hb0 hps I (fun c s W => c = .ret ∧ Ir s W) hI
    (fun c s W W' row h h1 h2 => ⟨h.1, hIr s W W' row h.2 h1 h2⟩) h0 (fun x a' W => ∃ Bx, w.heap.size ≤ Bx ∧ (∀ i c t, (blks x)[i]? = some (c, t) → W.heap[Bx + i]? = some (.cells c t (0, 0))) ∧ a' = { tmps := tm x Bx, defers := [] }) ?_ ?_ ?_ hdone ?_)
  · rintro x a' s W W' row ⟨Bx, h1, h2, h3⟩ hg' hr
    refine ⟨Bx, h1, fun i c t hi => ?_, h3⟩
    have hk := h2 i c t hi
    rw [hg'.block _ (blk_lt hk) (fun e => ?_)]
    · exact hk
    · obtain ⟨_, o, ho, hc⟩ := hr _ e.symm
      rw [hk] at ho; injection ho with ho; subst ho; cases hc
  · intro l pre x W K hi hK
    refine hassign l x W W.heap.size K rfl fun a' ha' => hK a' _ ?_ (KpV.of_below (allocs_below _ _ _ _ (Below.refl _ _) (Nat.le_refl _)) (Nat.le_trans hB (hIs _ _ hi))) (ownFrom_allocs hI _ _ hi) ⟨W.heap.size, hIs _ _ hi, fun i c t h => allocs_get _ _ i c t h, ha'⟩
    have hbl := allocs_below (blks x) W W W.heap.size (Below.refl _ _) (Nat.le_refl _)
    exact ⟨hbl.size, fun k o hk ho _ => blk_below ho hbl⟩
  · rintro l pre x a' W hl _ hi ⟨Bx, h1, h2, rfl⟩ hlen
    refine wpIn_mono (hbody l pre x Bx W h1 h2 hi hlen) ?_
    rintro e a'' W' (⟨rfl, h⟩ | ⟨rfl, h1, h2⟩)
    · exact h
    · exact ⟨h1, rfl, h2⟩
  · rintro D c pre W hD hSp ⟨rfl, hIr'⟩ hK
    exact wpIn_ret (hstop D pre W hD hSp hIr' hK)
end Go.Proofs.YtpkfenlfgdbkcaaGreatDoor

/-
  What stays where one block alone has changed; summaries that the call made itself. Conditions stand in each theorem.
-/
import Derived.Test.YtomgdkfoinojiaaS32Reach
import Derived.Test.YtomgdkfoinojiaaOwnLib
set_option linter.unusedSimpArgs false
set_option linter.unusedVariables false
namespace Go.Proofs.Ytomgdkfoinojiaa
open Go.RowKit
section
variable {w w' : World} {g gm : Nat} {o : Obj}
theorem grown_block (hg : w.grownBy w' (some g)) {k : Nat} (hk : k < w.heap.size) (hne : k ≠ g) : w'.heap[k]? = w.heap[k]? := by
  obtain ⟨_, _, _, _, h⟩ := hg
  exact h k hk (fun e => hne (Option.some.inj e))
theorem grown_size {row : Option Nat} (hg : w.grownBy w' row) : w.heap.size ≤ w'.heap.size := by obtain ⟨_, _, _, h, _⟩ := hg; exact h
theorem grown_heap (hg : w.grownBy w' (some g)) {k : Nat} {x : Obj} (hx : w.heap[k]? = some x) (hne : k ≠ g) : w'.heap[k]? = some x := (grown_block hg (blk_lt hx) hne).trans hx
theorem grown_none {k : Nat} {x : Obj} (hg : w.grownBy w' none) (hx : w.heap[k]? = some x) : w'.heap[k]? = some x := by
  obtain ⟨_, _, _, _, h⟩ := hg
  exact (h k (blk_lt hx) (fun e => by cases e)).trans hx
theorem cells_grown {es : Array MapEntry} {ck : Nat} (hm : w.heap[gm]? = some (Obj.map es ck)) (hg : w.grownBy w' (some gm)) (a : Addr) (v : Value) (h : w.cell? a = some v) : w'.cell? a = some v := by
  have hb := World.block_lt_of_cell? w a h
  have hne : a.block ≠ gm := by
    intro e
    unfold World.cell? at h
    rw [e, hm] at h
    simp at h
  have := grown_block hg hb hne
  unfold World.cell? at h ⊢
  rw [this]; exact h
theorem Own.kept_obj {α : Type} {f : α → List Value} {s : Nat} {e : TypeId} {base : Nat} {v : Value} {l : List α} (h : Own f s e base w v l) (hg : w.grownBy w' (some g)) (ho : w.heap[g]? = some o) (hne : ∀ cs, o ≠ .cells cs e (0, 0)) : Own f s e base w' v l := by
  cases hv : v.ownBlock with
  | none => exact h.kept hg (.inl hv)
  | some k =>
    refine h.kept hg (.inr fun e' => ?_)
    obtain ⟨cs, hc⟩ := own_type h hv
    rw [hv] at e'
    injection e' with e'
    rw [← e', hc] at ho
    injection ho with ho
    exact hne cs ho.symm
theorem RInv.grown {L : List NodeC} (h : RInv L gm w) {cs : Array Value} {t : TypeId} {fr : Nat × Nat} (hg : w.grownBy w' (some g)) (ho : w.heap[g]? = some (.cells cs t fr)) : RInv L gm w' := h.keep fun b es ck hx => grown_heap hg hx (fun e => by rw [e, ho] at hx; injection hx with hx; cases hx)
theorem RInv.grownOwn {L : List NodeC} (h : RInv L gm w) {α : Type} {f : α → List Value} {s : Nat} {e : TypeId} {base : Nat} {v : Value} {l : List α} (ho : Own f s e base w v l) (hg : w.grownBy w' v.ownBlock) : RInv L gm w' := by
  cases hv : v.ownBlock with
  | none => rw [hv] at hg; exact h.keep fun b es ck hx => grown_none hg hx
  | some k =>
    rw [hv] at hg
    obtain ⟨cs, hc⟩ := own_type ho hv
    exact h.grown hg hc
theorem heap_grownOwn {α : Type} {f : α → List Value} {s : Nat} {e t : TypeId} {base : Nat} {v : Value} {l : List α} (ho : Own f s e base w v l) (hg : w.grownBy w' v.ownBlock) {k : Nat} {cs : Array Value} {fr : Nat × Nat} (hx : w.heap[k]? = some (.cells cs t fr)) (hne : e ≠ t) : w'.heap[k]? = some (.cells cs t fr) := by
  cases hv : v.ownBlock with
  | none => rw [hv] at hg; exact grown_none hg hx
  | some j =>
    rw [hv] at hg
    obtain ⟨cs', hc⟩ := own_type ho hv
    refine grown_heap hg hx (fun e' => ?_)
    rw [e', hc] at hx
    injection hx with hx
    injection hx with _ hx _
    exact hne hx
theorem own_grownOwn {α β : Type} {f : α → List Value} {f' : β → List Value} {s s' : Nat} {e e' : TypeId} {base base' : Nat} {v v' : Value} {l : List α} {l' : List β} (ho : Own f s e base w v l) (hg : w.grownBy w' v.ownBlock) (h : Own f' s' e' base' w v' l') (hne : e ≠ e') : Own f' s' e' base' w' v' l' := by
  cases hv : v.ownBlock with
  | none => rw [hv] at hg; exact h.kept hg (by cases v'.ownBlock <;> simp)
  | some j =>
    rw [hv] at hg
    obtain ⟨cs', hc⟩ := own_type ho hv
    exact h.kept_obj hg hc (fun cs e1 => by injection e1 with _ e1 _; exact hne e1)
theorem mapFn_grownOwn {κ ν : Type} {fk : κ → Value} {fv : ν → Value} {M : κ → Option ν} {k : Nat} (h : MapFn fk fv w k M) {α : Type} {f : α → List Value} {s : Nat} {e : TypeId} {base : Nat} {v : Value} {l : List α} (ho : Own f s e base w v l) (hg : w.grownBy w' v.ownBlock) : MapFn fk fv w' k M := by
  obtain ⟨es, c, h1, h2⟩ := h
  refine ⟨es, c, ?_, h2⟩
  cases hv : v.ownBlock with
  | none => rw [hv] at hg; exact grown_none hg h1
  | some j =>
    rw [hv] at hg
    obtain ⟨cs', hc⟩ := own_type ho hv
    exact grown_heap hg h1 (fun e' => by rw [e', hc] at h1; injection h1 with h1; cases h1)
/-- The insets of some summaries are the call's own. -/
def InsOwn (B : Nat) (w : World) (l : List SumE) : Prop := ∀ n ∈ l, Own InsetE.cells 3 58 B w (.slice n.A n.inset.length n.c) n.inset
theorem InsOwn.map {B : Nat} {l : List SumE} (h : InsOwn B w l) (hk : ∀ (v : Value) (q : List InsetE), Own InsetE.cells 3 58 B w v q → Own InsetE.cells 3 58 B w' v q) : InsOwn B w' l := fun n hn => hk _ _ (h n hn)
theorem InsOwn.below {B : Nat} {l : List SumE} (h : InsOwn B w l) (hb : Below w.heap.size w w') : InsOwn B w' l := h.map fun _ _ ho => ho.below hb
theorem InsOwn.sums {B : Nat} {l : List SumE} {A : Option Addr} (h : InsOwn B w l) (hs : SlAt SumE.cells 5 w A l) : SumsAt w A l :=
  ⟨hs, fun n hn => ((h n hn).at_ InsetE.enc).2.2, fun n hn => ⟨((h n hn).at_ InsetE.enc).2.1, (h n hn).cap_le⟩⟩
theorem below_grown {B : Nat} {w0 : World} {row : Option Nat} (hb : Below B w0 w) (hg : w.grownBy w' row) (hB : B ≤ w.heap.size) (hr : ∀ k, row = some k → B ≤ k) : Below B w0 w' := hb.grown hg hB hr
end
end Go.Proofs.Ytomgdkfoinojiaa

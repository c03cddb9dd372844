/-
  Small texts of this seat, put into one. Conditions stand in each theorem.
-/
import Derived.Test.YtjegncmkebbdfaaGreatDoorGrpA
import Derived.Test.YtjegncmkebbdfaaGreatDoorGrp32
import Derived.Test.YtjegncmkebbdfaaGreatDoorGrp30
set_option linter.unusedSimpArgs false
set_option linter.unusedVariables false
namespace Go.Proofs.YtjegncmkebbdfaaGreatDoor
open Go.RowKit
def dstD (ops : Array Oper) (i : Nat) : Option Tmp := (ops[i]?).bind (·.dst)
/-- The slots that a region writes. -/
def dstL (ops : Array Oper) : List Tmp := ops.toList.filterMap (·.dst)
def valD (ops : Array Oper) (a : Act) (i : Nat) : Value := match dstD ops i with | some d => a.tmps.getD d undef | none => undef
def needsD (ops : Array Oper) (i : Nat) : List Nat := match ops[i]? with | some o => (o.after.toList.filter fun e => Region.binds .any e).map (·.on) | none => []
/-- Each waits for earlier ones only; no two write one slot; each slot is there. -/
def checkD (ops : Array Oper) (n : Nat) : Bool := (List.range ops.size).all fun i => ((needsD ops i).all fun j => decide (j < i)) && (match dstD ops i with | none => true | some d => decide (d < n) && (List.range i).all fun j => decide (dstD ops j ≠ some d))
section
variable {P : Program} {ops : Array Oper} {Q : Exit → Act → World → Prop} {R : Nat → Value → World → Prop} {w0 : World} {a0 : Act}
structure InvR (ops : Array Oper) (R : Nat → Value → World → Prop) (w0 : World) (a0 : Act) (listed : Nat → Bool) (a : Act) (w : World) : Prop where
  later : Later w0 w
  defers : a.defers = a0.defers
  size : a.tmps.size = a0.tmps.size
  out : ∀ t, t ∉ dstL ops → a.tmps.getD t undef = a0.tmps.getD t undef
  got : ∀ i, i < ops.size → listed i = true → R i (valD ops a i) w
theorem checkD_needs {n i j : Nat} (h : checkD ops n = true) (hi : i < ops.size) (hj : j ∈ needsD ops i) : j < i := by
  unfold checkD at h
  have := List.all_eq_true.1 h i (List.mem_range.2 hi)
  rw [Bool.and_eq_true] at this
  exact of_decide_eq_true (List.all_eq_true.1 this.1 j hj)
theorem checkD_dst {n i d : Nat} (h : checkD ops n = true) (hi : i < ops.size) (hd : dstD ops i = some d) : d < n ∧ ∀ j, j < i → dstD ops j ≠ some d := by
  unfold checkD at h
  have := List.all_eq_true.1 h i (List.mem_range.2 hi)
  rw [Bool.and_eq_true, hd] at this
  have h2 := this.2
  simp only [Bool.and_eq_true, decide_eq_true_eq] at h2
  exact ⟨h2.1, fun j hj => of_decide_eq_true (List.all_eq_true.1 h2.2 j (List.mem_range.2 hj))⟩
theorem checkD_inj {n i j d : Nat} (h : checkD ops n = true) (hi : i < ops.size) (hj : j < ops.size) (hd : dstD ops i = some d) (hd' : dstD ops j = some d) : i = j := by
  rcases Nat.lt_trichotomy i j with e | e | e
  · exact absurd hd ((checkD_dst h hj hd').2 i e)
  · exact e
  · exact absurd hd' ((checkD_dst h hi hd).2 j e)
theorem dstL_mem {i d : Nat} (hi : i < ops.size) (hd : dstD ops i = some d) : d ∈ dstL ops := by
  unfold dstD at hd
  rw [Array.getElem?_eq_getElem hi] at hd
  exact List.mem_filterMap.2 ⟨ops[i], by simp, hd⟩
theorem getD_put_same {a : Act} {d : Nat} {v : Value} (h : d < a.tmps.size) : (a.put (some d) v).tmps.getD d undef = v := by
  simp [Act.put, Array.getD, h]
theorem getD_put_ne {a : Act} {o : Option Tmp} {t : Nat} {v : Value} (h : o ≠ some t) : (a.put o v).tmps.getD t undef = a.tmps.getD t undef := by
  cases o with
  | none => rfl
  | some d =>
    have hne : d ≠ t := fun e => h (by rw [e])
    simp only [Act.put, Array.getD_eq_getD_getElem?, Array.getElem?_setIfInBounds, if_neg hne]
theorem size_put {a : Act} {o : Option Tmp} {v : Value} : (a.put o v).tmps.size = a.tmps.size := by cases o <;> simp [Act.put]
theorem defers_put {a : Act} {o : Option Tmp} {v : Value} : (a.put o v).defers = a.defers := by cases o <;> rfl
/-- What an operation must do. -/
def StepD (P : Program) (ops : Array Oper) (Q : Exit → Act → World → Prop) (R : Nat → Value → World → Prop) (w0 : World) (a0 : Act) (i : Nat) (o : Oper) : Prop :=
  ∀ a w, Later w0 w → (∀ j ∈ needsD ops i, R j (valD ops a j) w) → (∀ t, t ∉ dstL ops → a.tmps.getD t undef = a0.tmps.getD t undef) → ∀ K : Act → World → Prop, (∀ v w', Later w w' → R i (if o.dst.isSome then v else undef) w' → K (a.put o.dst v) w') →
    if Region.wanted o (yielded ops a.tmps) = true then Oper.wp P o a w K Q else K (a.put o.dst undef) w
theorem InvR.step {listed : Nat → Bool} {a : Act} {w : World} {n i : Nat} {o : Oper} (hmono : ∀ i v w w', Later w w' → R i v w → R i v w') (hc : checkD ops n = true) (hn : n = a0.tmps.size) (hI : InvR ops R w0 a0 listed a w) (ho : ops[i]? = some o)
    {v : Value} {w' : World} (hl : Later w w') (hR : R i (if o.dst.isSome then v else undef) w') : InvR ops R w0 a0 (fun j => if j = i then true else listed j) (a.put o.dst v) w' := by
  have hi : i < ops.size := (Array.getElem?_eq_some_iff.1 ho).1
  have hd : dstD ops i = o.dst := by unfold dstD; rw [ho]; rfl
  refine ⟨hI.later.trans hl, by rw [defers_put, hI.defers], by rw [size_put, hI.size], fun t ht => ?_, fun j hj hlj => ?_⟩
  · rw [getD_put_ne (fun e => ht (dstL_mem hi (hd.trans e))), hI.out t ht]
  · by_cases e : j = i
    · subst e
      unfold valD
      rw [hd]
      cases hod : o.dst with
      | none => rw [hod] at hR; exact hR
      | some d =>
        rw [hod] at hR hd
        have := (checkD_dst hc hi hd).1
        show R j ((a.put (some d) v).tmps.getD d undef) w'
        rw [getD_put_same (by rw [hI.size, ← hn]; exact this)]
        exact hR
    · rw [if_neg e] at hlj
      have h1 := hmono j _ w w' hl (hI.got j hj hlj)
      have : valD ops (a.put o.dst v) j = valD ops a j := by
        unfold valD
        cases hdj : dstD ops j with
        | none => rfl
        | some d => exact getD_put_ne fun h2 => e (checkD_inj hc hj hi hdj (hd.trans h2))
      rw [this]
      exact h1
/-- How many are not listed yet. -/
def leftD (n : Nat) (listed : Array Bool) : Nat := ((List.range n).filter fun i => !listed.getD i true).length
/-- The last operation (a store, say) waits for all others; or there is none. -/
def lastD (ops : Array Oper) (last : Nat) : Bool := decide (ops.size ≤ last) || (List.range ops.size).all fun j => decide (j = last) || (needsD ops last).contains j
theorem lastD_needs {last j : Nat} (h : lastD ops last = true) (hl : last < ops.size) (hj : j < ops.size) (hne : j ≠ last) : j ∈ needsD ops last := by
  unfold lastD at h
  rw [Bool.or_eq_true] at h
  rcases h with h | h
  · have := of_decide_eq_true h; omega
  · have := List.all_eq_true.1 h j (List.mem_range.2 hj)
    rw [Bool.or_eq_true] at this
    rcases this with h | h
    · exact absurd (of_decide_eq_true h) hne
    · simpa using h
def LastD (P : Program) (ops : Array Oper) (Q : Exit → Act → World → Prop) (R : Nat → Value → World → Prop) (w0 : World) (a0 : Act) (last : Nat) (o : Oper) : Prop :=
  ∀ a w, InvR ops R w0 a0 (fun j => j != last) a w → ∀ K : Act → World → Prop, (∀ a' w', Q .normal a' w' → K a' w') → if Region.wanted o (yielded ops a.tmps) = true then Oper.wp P o a w K Q else K (a.put o.dst undef) w
theorem wpAny_inv {last : Nat} (hmono : ∀ i v w w', Later w w' → R i v w → R i v w') (hc : checkD ops a0.tmps.size = true) (hcl : lastD ops last = true) (hstep : ∀ i o, ops[i]? = some o → i ≠ last → StepD P ops Q R w0 a0 i o) (hlast : ∀ o, ops[last]? = some o → LastD P ops Q R w0 a0 last o) (hend : ops.size ≤ last → ∀ a w, InvR ops R w0 a0 (fun _ => true) a w → Q .normal a w) :
    ∀ (fuel : Nat) (listed : Array Bool) (a : Act) (w : World), listed.size = ops.size → leftD ops.size listed ≤ fuel → (last < ops.size → listed.getD last true = false) → InvR ops R w0 a0 (fun i => listed.getD i true) a w → wpAny P .any ops Q fuel listed a w := by
  have hall : ∀ (listed : Array Bool) (a : Act) (w : World), listed.size = ops.size → (last < ops.size → listed.getD last true = false) → InvR ops R w0 a0 (fun i => listed.getD i true) a w → Region.ready .any ops listed = [] → Q .normal a w := fun listed a w hs hnl hI hr => by
    have key : ∀ i, i < ops.size → listed.getD i true = true := fun i => by
      induction i using Nat.strongRecOn with
      | _ i ih =>
        intro hi
        by_cases hl : listed.getD i true = true
        · exact hl
        · exfalso
          have : i ∈ Region.ready .any ops listed := by
            unfold Region.ready
            rw [List.mem_filter]
            refine ⟨List.mem_range.2 hi, ?_⟩
            have hl' : listed.getD i true = false := by simpa using hl
            rw [hl', Array.getElem?_eq_getElem hi]
            simp only [Bool.not_false, Bool.true_and, Option.map_some, Option.getD_some]
            rw [Array.all_eq_true]
            intro j hj
            cases hb : Region.binds .any (ops[i].after[j]) with
            | false => rfl
            | true =>
              have hn : (ops[i].after[j]).on ∈ needsD ops i := by
                unfold needsD
                rw [Array.getElem?_eq_getElem hi]
                exact List.mem_map.2 ⟨ops[i].after[j], List.mem_filter.2 ⟨by simp, hb⟩, rfl⟩
              have hlt := checkD_needs hc hi hn
              have h1 := ih _ hlt (by omega)
              have : listed.getD (ops[i].after[j]).on false = true := by
                have hs2 : (ops[i].after[j]).on < listed.size := by omega
                simp only [Array.getD, hs2, dif_pos] at h1 ⊢
                exact h1
              rw [this]; rfl
          rw [hr] at this; cases this
    have hle : ops.size ≤ last := by
      rcases Nat.lt_or_ge last ops.size with h | h
      · have h1 := key last h
        rw [hnl h] at h1; cases h1
      · exact h
    exact hend hle a w ⟨hI.later, hI.defers, hI.size, hI.out, fun i hi _ => hI.got i hi (key i hi)⟩
  intro fuel
  induction fuel with
  | zero =>
    intro listed a w hs hf hlf hI
    have hr : Region.ready .any ops listed = [] := by
      rcases h : Region.ready .any ops listed with _ | ⟨i, rs⟩
      · rfl
      · exfalso
        have hi : i ∈ Region.ready .any ops listed := by rw [h]; exact List.mem_cons_self
        unfold Region.ready at hi
        obtain ⟨h1, h2⟩ := List.mem_filter.1 hi
        rw [Bool.and_eq_true] at h2
        have : i ∈ (List.range ops.size).filter fun i => !listed.getD i true := List.mem_filter.2 ⟨h1, h2.1⟩
        unfold leftD at hf
        have := List.length_pos_of_mem this
        omega
    exact ⟨hr, hall listed a w hs hlf hI hr⟩
  | succ fuel ih =>
    intro listed a w hs hf hlf hI
    refine ⟨fun hr => hall listed a w hs hlf hI hr, fun i hi => ?_⟩
    unfold Region.ready at hi
    obtain ⟨h1, h2⟩ := List.mem_filter.1 hi
    rw [Bool.and_eq_true] at h2
    have hi' := List.mem_range.1 h1
    have hnl : listed.getD i true = false := by simpa using h2.1
    obtain ⟨o, ho⟩ : ∃ o, ops[i]? = some o := ⟨_, Array.getElem?_eq_getElem hi'⟩
    have hal : ∀ j ∈ needsD ops i, listed.getD j true = true := fun j hj => by
      unfold needsD at hj
      rw [ho] at hj h2
      obtain ⟨e, he, rfl⟩ := List.mem_map.1 hj
      obtain ⟨he1, he2⟩ := List.mem_filter.1 he
      have h3 := h2.2
      simp only [Option.map_some, Option.getD_some] at h3
      rw [Array.all_eq_true'] at h3
      have h4 := h3 e (by simpa using he1)
      rw [he2] at h4
      simp only [Bool.not_true, Bool.false_or] at h4
      by_cases hs2 : e.on < listed.size
      · simp only [Array.getD, hs2, dif_pos] at h4 ⊢
        exact h4
      · simp only [Array.getD, hs2, dif_neg, not_false_eq_true] at h4
        cases h4
    refine wpOp_step ho fun K hK => ?_
    by_cases hil : i = last
    · subst hil
      have hother : ∀ j, j < ops.size → (j != i) = true → listed.getD j true = true := fun j hj hji => hal j (lastD_needs hcl hi' hj (by simpa using hji))
      refine hlast o ho a w ⟨hI.later, hI.defers, hI.size, hI.out, fun j hj hji => hI.got j hj (hother j hj hji)⟩ K (fun a' w' hQ => hK _ _ (wpAny_done ?_ hQ _))
      rcases h : Region.ready .any ops (listed.setIfInBounds i true) with _ | ⟨k, rs⟩
      · rfl
      · exfalso
        have hk : k ∈ Region.ready .any ops (listed.setIfInBounds i true) := by rw [h]; exact List.mem_cons_self
        unfold Region.ready at hk
        obtain ⟨k1, k2⟩ := List.mem_filter.1 hk
        rw [Bool.and_eq_true] at k2
        have k3 := k2.1
        have k4 := List.mem_range.1 k1
        by_cases e : k = i
        · subst e
          simp [Array.getD_eq_getD_getElem?, Array.getElem?_setIfInBounds, show k < listed.size by omega] at k3
        · have k5 := hother k k4 (by simpa using e)
          simp only [Array.getD_eq_getD_getElem?, Array.getElem?_setIfInBounds, if_neg (show ¬ i = k from fun h => e h.symm)] at k3 k5
          rw [k5] at k3
          cases k3
    refine hstep i o ho hil a w hI.later (fun j hj => ?_) hI.out K (fun v w' hl hR => hK _ _ ?_)
    · exact hI.got j (by have := checkD_needs hc hi' hj; omega) (hal j hj)
    · refine ih _ _ _ (by simpa using hs) ?_ (fun h => by
        have h1 := hlf h
        simpa [Array.getD_eq_getD_getElem?, Array.getElem?_setIfInBounds, hil] using h1) ?_
      · have : leftD ops.size (listed.setIfInBounds i true) < leftD ops.size listed := by
          unfold leftD
          have h3 : i ∈ (List.range ops.size).filter fun j => !listed.getD j true := List.mem_filter.2 ⟨h1, h2.1⟩
          have h4 : ((List.range ops.size).filter fun j => !(listed.setIfInBounds i true).getD j true) = ((List.range ops.size).filter fun j => !listed.getD j true).erase i := by
            rw [List.Nodup.erase_eq_filter (List.Pairwise.filter _ List.nodup_range), List.filter_filter]
            apply List.filter_congr
            intro j hj
            by_cases e : j = i
            · subst e
              simp [Array.getD_eq_getD_getElem?, Array.getElem?_setIfInBounds, show j < listed.size by omega]
            · simp [Array.getD_eq_getD_getElem?, Array.getElem?_setIfInBounds, show ¬ i = j from fun h => e h.symm, e]
          rw [h4, List.length_erase_of_mem h3]
          have := List.length_pos_of_mem h3
          omega
        omega
      · have := hI.step hmono hc rfl ho hl hR
        refine ⟨this.later, this.defers, this.size, this.out, fun j hj hlj => this.got j hj ?_⟩
        by_cases e : j = i
        · simp [e]
        · show (if j = i then true else listed.getD j true) = true
          rw [if_neg e]
          simpa [Array.getD_eq_getD_getElem?, Array.getElem?_setIfInBounds, show ¬ i = j from fun h => e h.symm] using hlj
theorem wp_region_inv {last : Nat} (hm : P.follows .mixedOrders = true) {id : Nat} {a0 : Act} {w : World} (hmono : ∀ i v w w', Later w w' → R i v w → R i v w') (hc : checkD ops a0.tmps.size = true) (hcl : lastD ops last = true) (hstep : ∀ i o, ops[i]? = some o → i ≠ last → StepD P ops Q R w.drew a0 i o) (hlast : ∀ o, ops[last]? = some o → LastD P ops Q R w.drew a0 last o) (hend : ops.size ≤ last → ∀ a w', InvR ops R w.drew a0 (fun _ => true) a w' → Q .normal a w') :
    (Code.region id ops true).wp P Q a0 w := by
  refine wp_region_any hm (wpAny_inv hmono hc hcl hstep hlast hend ops.size _ a0 w.drew (by simp) ?_ (fun h => by simp [Array.getD, h]) ⟨Later.refl, rfl, rfl, fun _ _ => rfl, fun i hi hl => ?_⟩)
  · unfold leftD
    refine Nat.le_trans (List.length_filter_le _ _) (by rw [List.length_range]; exact Nat.le_refl _)
  · simp [Array.getD, hi] at hl
end
/-! ### Facts that last -/
structure Spec where
  r : Value → World → Prop
  mono : ∀ v w w', Later w w' → r v w → r v w'
def Spec.is (x : Value) : Spec := ⟨fun v _ => v = x, fun _ _ _ _ h => h⟩
def Spec.any : Spec := ⟨fun _ _ => True, fun _ _ _ _ h => h⟩
/-- f of a block that holds these cells. -/
def Spec.blk (f : Nat → Value) (cs : Array Value) (t : TypeId) : Spec := ⟨fun v w => ∃ g, v = f g ∧ w.heap[g]? = some (.cells cs t (0, 0)), fun _ _ _ l ⟨g, h1, h2⟩ => ⟨g, h1, blk_below h2 l.below⟩⟩
def specR (l : List Spec) (i : Nat) (v : Value) (w : World) : Prop := (l.getD i Spec.any).r v w
theorem specR_mono (l : List Spec) : ∀ i v w w', Later w w' → specR l i v w → specR l i v w' := fun i v w w' => (l.getD i Spec.any).mono v w w'
def AllFrom (p : Nat → Oper → Prop) : Nat → List Oper → Prop
  | _, [] => True
  | k, o :: l => p k o ∧ AllFrom p (k + 1) l
theorem allFrom_get {p : Nat → Oper → Prop} : ∀ {l : List Oper} {k : Nat}, AllFrom p k l → ∀ i o, l[i]? = some o → p (k + i) o
  | [], _, _, i, o, h => by cases h
  | x :: l, k, h, 0, o, ho => by
    injection ho with ho
    subst ho
    exact h.1
  | x :: l, k, h, i + 1, o, ho => by
    have := allFrom_get h.2 i o ho
    rwa [Nat.add_assoc, Nat.add_comm 1 i] at this
theorem steps_all {p : Nat → Oper → Prop} {l : List Oper} (h : AllFrom p 0 l) : ∀ i o, (l.toArray)[i]? = some o → p i o := fun i o ho => by
  have := allFrom_get h i o (by simpa using ho)
  rwa [Nat.zero_add] at this
theorem needs_get {ops : Array Oper} {i j : Nat} (h : (needsD ops i).contains j = true) : j ∈ needsD ops i := by simpa using h
theorem out_get {ops : Array Oper} {t : Nat} (h : (dstL ops).contains t = false) : t ∉ dstL ops := fun h' => by
  have : (dstL ops).contains t = true := by simpa using h'
  rw [h] at this; cases this
theorem wanted_guard {ops : Array Oper} {a : Act} {o : Oper} {j d : Nat} {b : Bool} (hg : o.guard = some (j, b)) (hd : dstD ops j = some d) (hv : a.tmps.getD d undef = .bool b) : Region.wanted o (yielded ops a.tmps) = true := by
  have h2 : a.tmps[d]? = some (.bool b) := by
    rw [Array.getD_eq_getD_getElem?] at hv
    cases h : a.tmps[d]? with
    | none => rw [h] at hv; cases hv
    | some v => rw [h] at hv; exact congrArg some hv
  have h3 : yielded ops a.tmps j = some b := by
    unfold yielded
    rw [show (ops[j]?).bind (·.dst) = some d from hd, Option.bind_some, h2]
  unfold Region.wanted
  rw [hg]
  show (yielded ops a.tmps j == some b) = true
  rw [h3]
  simp
end Go.Proofs.YtjegncmkebbdfaaGreatDoor

namespace Go.Proofs.YtjegncmkebbdfaaGreatDoor
open Go.RowKit
section
variable {P : Program} {ops : Array Oper} {Q : Exit → Act → World → Prop} {R : Nat → Value → World → Prop} {J : Bool → Value → World → Prop} {row : Option Nat} {w0 : World} {a0 : Act}
/-- What holds while the operations are listed one by one: 'ap' is the one that appends, 'row' the block in which it may write. -/
structure InvA (ops : Array Oper) (R : Nat → Value → World → Prop) (J : Bool → Value → World → Prop) (row : Option Nat) (ap : Nat) (w0 : World) (a0 : Act) (listed : Nat → Bool) (a : Act) (w : World) : Prop where
  grown : w0.grownBy w row
  defers : a.defers = a0.defers
  size : a.tmps.size = a0.tmps.size
  out : ∀ t, t ∉ dstL ops → a.tmps.getD t undef = a0.tmps.getD t undef
  got : ∀ i, i < ops.size → listed i = true → R i (valD ops a i) w
  st : J (listed ap) (if listed ap then valD ops a ap else undef) w
/-- What an operation must do that only makes memory and reads. -/
def StepA (P : Program) (ops : Array Oper) (Q : Exit → Act → World → Prop) (R : Nat → Value → World → Prop) (row : Option Nat) (w0 : World) (a0 : Act) (i : Nat) (o : Oper) : Prop :=
  ∀ a w, w0.grownBy w row → (∀ j ∈ needsD ops i, R j (valD ops a j) w) → (∀ t, t ∉ dstL ops → a.tmps.getD t undef = a0.tmps.getD t undef) → ∀ K : Act → World → Prop, (∀ v w', Later w w' → R i (if o.dst.isSome then v else undef) w' → K (a.put o.dst v) w') →
    if Region.wanted o (yielded ops a.tmps) = true then Oper.wp P o a w K Q else K (a.put o.dst undef) w
/-- What the append must do. -/
def StepAp (P : Program) (ops : Array Oper) (Q : Exit → Act → World → Prop) (R : Nat → Value → World → Prop) (J : Bool → Value → World → Prop) (row : Option Nat) (w0 : World) (a0 : Act) (i : Nat) (o : Oper) : Prop :=
  ∀ a w, w0.grownBy w row → J false undef w → (∀ j ∈ needsD ops i, R j (valD ops a j) w) → (∀ t, t ∉ dstL ops → a.tmps.getD t undef = a0.tmps.getD t undef) → ∀ K : Act → World → Prop, (∀ v w', w.grownBy w' row → R i v w' → J true v w' → K (a.put o.dst v) w') →
    if Region.wanted o (yielded ops a.tmps) = true then Oper.wp P o a w K Q else K (a.put o.dst undef) w
def LastA (P : Program) (ops : Array Oper) (Q : Exit → Act → World → Prop) (R : Nat → Value → World → Prop) (J : Bool → Value → World → Prop) (row : Option Nat) (ap : Nat) (w0 : World) (a0 : Act) (last : Nat) (o : Oper) : Prop :=
  ∀ a w, InvA ops R J row ap w0 a0 (fun j => j != last) a w → ∀ K : Act → World → Prop, (∀ a' w', Q .normal a' w' → K a' w') → if Region.wanted o (yielded ops a.tmps) = true then Oper.wp P o a w K Q else K (a.put o.dst undef) w
theorem InvA.step {listed : Nat → Bool} {a : Act} {w : World} {n i ap : Nat} {o : Oper} (hmono : ∀ i v w w', w0.heap.size ≤ w.heap.size → w.grownBy w' row → R i v w → R i v w') (hJ : ∀ b v w w', Later w w' → J b v w → J b v w') (hc : checkD ops a0.tmps.size = true) (hn : n = a0.tmps.size) (hI : InvA ops R J row ap w0 a0 listed a w) (ho : ops[i]? = some o) (hap : i ≠ ap) (hapd : ap < ops.size)
    {v : Value} {w' : World} (hl : Later w w') (hR : R i (if o.dst.isSome then v else undef) w') : InvA ops R J row ap w0 a0 (fun j => if j = i then true else listed j) (a.put o.dst v) w' := by
  have hi : i < ops.size := (Array.getElem?_eq_some_iff.1 ho).1
  have hd : dstD ops i = o.dst := by unfold dstD; rw [ho]; rfl
  have hval : ∀ j, j < ops.size → j ≠ i → valD ops (a.put o.dst v) j = valD ops a j := fun j hj e => by
    unfold valD
    cases hdj : dstD ops j with
    | none => rfl
    | some d => exact getD_put_ne fun h2 => e (checkD_inj hc hj hi hdj (hd.trans h2))
  have hgr : w.grownBy w' row := grown_below hl.below row
  refine ⟨hI.grown.trans hgr, by rw [defers_put, hI.defers], by rw [size_put, hI.size], fun t ht => ?_, fun j hj hlj => ?_, ?_⟩
  · rw [getD_put_ne (fun e => ht (dstL_mem hi (hd.trans e))), hI.out t ht]
  · by_cases e : j = i
    · subst e
      unfold valD
      rw [hd]
      cases hod : o.dst with
      | none => rw [hod] at hR; exact hR
      | some d =>
        rw [hod] at hR hd
        have := (checkD_dst hc hi hd).1
        show R j ((a.put (some d) v).tmps.getD d undef) w'
        rw [getD_put_same (by rw [hI.size]; exact this)]
        exact hR
    · rw [if_neg e] at hlj
      rw [hval j hj e]
      exact hmono j _ w w' hI.grown.size hgr (hI.got j hj hlj)
  · show J (if ap = i then true else listed ap) (if (if ap = i then true else listed ap) = true then valD ops (a.put o.dst v) ap else undef) w'
    rw [if_neg (fun h => hap h.symm), hval ap hapd (fun h => hap h.symm)]
    exact hJ _ _ w w' hl hI.st
theorem InvA.app {listed : Nat → Bool} {a : Act} {w : World} {ap : Nat} {o : Oper} (hmono : ∀ i v w w', w0.heap.size ≤ w.heap.size → w.grownBy w' row → R i v w → R i v w') (hc : checkD ops a0.tmps.size = true) (hI : InvA ops R J row ap w0 a0 listed a w) (ho : ops[ap]? = some o) (hod : o.dst.isSome = true)
    {v : Value} {w' : World} (hg : w.grownBy w' row) (hR : R ap v w') (hj : J true v w') : InvA ops R J row ap w0 a0 (fun j => if j = ap then true else listed j) (a.put o.dst v) w' := by
  have hi : ap < ops.size := (Array.getElem?_eq_some_iff.1 ho).1
  have hd : dstD ops ap = o.dst := by unfold dstD; rw [ho]; rfl
  obtain ⟨d, hdd⟩ := Option.isSome_iff_exists.1 hod
  have hself : valD ops (a.put o.dst v) ap = v := by
    unfold valD
    rw [hd, hdd]
    have := (checkD_dst hc hi (hd.trans hdd)).1
    show (a.put (some d) v).tmps.getD d undef = v
    rw [getD_put_same (by rw [hI.size]; exact this)]
  refine ⟨hI.grown.trans hg, by rw [defers_put, hI.defers], by rw [size_put, hI.size], fun t ht => ?_, fun j hjs hlj => ?_, ?_⟩
  · rw [getD_put_ne (fun e => ht (dstL_mem hi (hd.trans e))), hI.out t ht]
  · by_cases e : j = ap
    · subst e; rw [hself]; exact hR
    · rw [if_neg e] at hlj
      have : valD ops (a.put o.dst v) j = valD ops a j := by
        unfold valD
        cases hdj : dstD ops j with
        | none => rfl
        | some d => exact getD_put_ne fun h2 => e (checkD_inj hc hjs hi hdj (hd.trans h2))
      rw [this]
      exact hmono j _ w w' hI.grown.size hg (hI.got j hjs hlj)
  · show J (if ap = ap then true else listed ap) (if (if ap = ap then true else listed ap) = true then valD ops (a.put o.dst v) ap else undef) w'
    rw [if_pos rfl, if_pos rfl, hself]
    exact hj
theorem wpAny_invA {last ap : Nat} (hmono : ∀ i v w w', w0.heap.size ≤ w.heap.size → w.grownBy w' row → R i v w → R i v w') (hJ : ∀ b v w w', Later w w' → J b v w → J b v w') (hc : checkD ops a0.tmps.size = true) (hcl : lastD ops last = true) (hapd : decide (ap < ops.size) && decide (ap ≠ last) && ((ops[ap]?).bind (·.dst)).isSome = true)
    (hstep : ∀ i o, ops[i]? = some o → i ≠ last → i ≠ ap → StepA P ops Q R row w0 a0 i o) (happ : ∀ o, ops[ap]? = some o → StepAp P ops Q R J row w0 a0 ap o) (hlast : ∀ o, ops[last]? = some o → LastA P ops Q R J row ap w0 a0 last o) (hend : ops.size ≤ last → ∀ a w, InvA ops R J row ap w0 a0 (fun _ => true) a w → Q .normal a w) :
    ∀ (fuel : Nat) (listed : Array Bool) (a : Act) (w : World), listed.size = ops.size → leftD ops.size listed ≤ fuel → (last < ops.size → listed.getD last true = false) → InvA ops R J row ap w0 a0 (fun i => listed.getD i true) a w → wpAny P .any ops Q fuel listed a w := by
  rw [Bool.and_eq_true, Bool.and_eq_true] at hapd
  obtain ⟨⟨hap1, hap2⟩, hap3⟩ := hapd
  have hap1 := of_decide_eq_true hap1
  have hap2 := of_decide_eq_true hap2
  have hall : ∀ (listed : Array Bool) (a : Act) (w : World), listed.size = ops.size → (last < ops.size → listed.getD last true = false) → InvA ops R J row ap w0 a0 (fun i => listed.getD i true) a w → Region.ready .any ops listed = [] → Q .normal a w := fun listed a w hs hnl hI hr => by
    have key : ∀ i, i < ops.size → listed.getD i true = true := fun i => by
      induction i using Nat.strongRecOn with
      | _ i ih =>
        intro hi
        by_cases hl : listed.getD i true = true
        · exact hl
        · exfalso
          have : i ∈ Region.ready .any ops listed := by
            unfold Region.ready
            rw [List.mem_filter]
            refine ⟨List.mem_range.2 hi, ?_⟩
            have hl' : listed.getD i true = false := by simpa using hl
            rw [hl', Array.getElem?_eq_getElem hi]
            simp only [Bool.not_false, Bool.true_and, Option.map_some, Option.getD_some]
            rw [Array.all_eq_true]
            intro j hj
            cases hb : Region.binds .any (ops[i].after[j]) with
            | false => rfl
            | true =>
              have hn : (ops[i].after[j]).on ∈ needsD ops i := by
                unfold needsD
                rw [Array.getElem?_eq_getElem hi]
                exact List.mem_map.2 ⟨ops[i].after[j], List.mem_filter.2 ⟨by simp, hb⟩, rfl⟩
              have hlt := checkD_needs hc hi hn
              have h1 := ih _ hlt (by omega)
              have : listed.getD (ops[i].after[j]).on false = true := by
                have hs2 : (ops[i].after[j]).on < listed.size := by omega
                simp only [Array.getD, hs2, dif_pos] at h1 ⊢
                exact h1
              rw [this]; rfl
          rw [hr] at this; cases this
    have hle : ops.size ≤ last := by
      rcases Nat.lt_or_ge last ops.size with h | h
      · have h1 := key last h
        rw [hnl h] at h1; cases h1
      · exact h
    have hst := hI.st
    simp only [key ap hap1, if_true] at hst
    exact hend hle a w ⟨hI.grown, hI.defers, hI.size, hI.out, fun i hi _ => hI.got i hi (key i hi), hst⟩
  intro fuel
  induction fuel with
  | zero =>
    intro listed a w hs hf hlf hI
    have hr : Region.ready .any ops listed = [] := by
      rcases h : Region.ready .any ops listed with _ | ⟨i, rs⟩
      · rfl
      · exfalso
        have hi : i ∈ Region.ready .any ops listed := by rw [h]; exact List.mem_cons_self
        unfold Region.ready at hi
        obtain ⟨h1, h2⟩ := List.mem_filter.1 hi
        rw [Bool.and_eq_true] at h2
        have : i ∈ (List.range ops.size).filter fun i => !listed.getD i true := List.mem_filter.2 ⟨h1, h2.1⟩
        unfold leftD at hf
        have := List.length_pos_of_mem this
        omega
    exact ⟨hr, hall listed a w hs hlf hI hr⟩
  | succ fuel ih =>
    intro listed a w hs hf hlf hI
    refine ⟨fun hr => hall listed a w hs hlf hI hr, fun i hi => ?_⟩
    unfold Region.ready at hi
    obtain ⟨h1, h2⟩ := List.mem_filter.1 hi
    rw [Bool.and_eq_true] at h2
    have hi' := List.mem_range.1 h1
    have hnl : listed.getD i true = false := by simpa using h2.1
    obtain ⟨o, ho⟩ : ∃ o, ops[i]? = some o := ⟨_, Array.getElem?_eq_getElem hi'⟩
    have hal : ∀ j ∈ needsD ops i, listed.getD j true = true := fun j hj => by
      unfold needsD at hj
      rw [ho] at hj h2
      obtain ⟨e, he, rfl⟩ := List.mem_map.1 hj
      obtain ⟨he1, he2⟩ := List.mem_filter.1 he
      have h3 := h2.2
      simp only [Option.map_some, Option.getD_some] at h3
      rw [Array.all_eq_true'] at h3
      have h4 := h3 e (by simpa using he1)
      rw [he2] at h4
      simp only [Bool.not_true, Bool.false_or] at h4
      by_cases hs2 : e.on < listed.size
      · simp only [Array.getD, hs2, dif_pos] at h4 ⊢
        exact h4
      · simp only [Array.getD, hs2, dif_neg, not_false_eq_true] at h4
        cases h4
    have hset : ∀ (j : Nat), j < ops.size → (listed.setIfInBounds i true).getD j true = if j = i then true else listed.getD j true := fun j hj => by
      by_cases e : j = i
      · subst e
        simp [Array.getD_eq_getD_getElem?, Array.getElem?_setIfInBounds, show j < listed.size by omega]
      · rw [if_neg e]
        simp [Array.getD_eq_getD_getElem?, Array.getElem?_setIfInBounds, show ¬ i = j from fun h => e h.symm]
    have hrec : ∀ a' w', i ≠ last → InvA ops R J row ap w0 a0 (fun j => if j = i then true else listed.getD j true) a' w' → wpAny P .any ops Q fuel (listed.setIfInBounds i true) a' w' := fun a' w' hil hI' => by
      refine ih _ _ _ (by simpa using hs) ?_ (fun h => by
        have h1 := hlf h
        rw [hset last h, if_neg (fun e => hil e.symm)]
        exact h1) ⟨hI'.grown, hI'.defers, hI'.size, hI'.out, fun j hj hlj => hI'.got j hj (by rw [← hset j hj]; exact hlj), by
          have hst := hI'.st
          show J ((listed.setIfInBounds i true).getD ap true) (if (listed.setIfInBounds i true).getD ap true = true then valD ops a' ap else undef) w'
          rw [hset ap hap1]
          exact hst⟩
      have : leftD ops.size (listed.setIfInBounds i true) < leftD ops.size listed := by
        unfold leftD
        have h3 : i ∈ (List.range ops.size).filter fun j => !listed.getD j true := List.mem_filter.2 ⟨h1, h2.1⟩
        have h4 : ((List.range ops.size).filter fun j => !(listed.setIfInBounds i true).getD j true) = ((List.range ops.size).filter fun j => !listed.getD j true).erase i := by
          rw [List.Nodup.erase_eq_filter (List.Pairwise.filter _ List.nodup_range), List.filter_filter]
          apply List.filter_congr
          intro j hj
          by_cases e : j = i
          · subst e
            simp [Array.getD_eq_getD_getElem?, Array.getElem?_setIfInBounds, show j < listed.size by omega]
          · simp [Array.getD_eq_getD_getElem?, Array.getElem?_setIfInBounds, show ¬ i = j from fun h => e h.symm, e]
        rw [h4, List.length_erase_of_mem h3]
        have := List.length_pos_of_mem h3
        omega
      omega
    have hneed : ∀ j ∈ needsD ops i, R j (valD ops a j) w := fun j hj => hI.got j (by have := checkD_needs hc hi' hj; omega) (hal j hj)
    refine wpOp_step ho fun K hK => ?_
    by_cases hil : i = last
    · subst hil
      have hother : ∀ j, j < ops.size → (j != i) = true → listed.getD j true = true := fun j hj hji => hal j (lastD_needs hcl hi' hj (by simpa using hji))
      have hap4 : listed.getD ap true = true := hother ap hap1 (by simpa using hap2)
      refine hlast o ho a w ⟨hI.grown, hI.defers, hI.size, hI.out, fun j hj hji => hI.got j hj (hother j hj hji), ?_⟩ K (fun a' w' hQ => hK _ _ (wpAny_done ?_ hQ _))
      · have hst := hI.st
        simp only [hap4, if_true] at hst
        have : (ap != i) = true := by simpa using hap2
        simp only [this, if_true]
        exact hst
      rcases h : Region.ready .any ops (listed.setIfInBounds i true) with _ | ⟨k, rs⟩
      · rfl
      · exfalso
        have hk : k ∈ Region.ready .any ops (listed.setIfInBounds i true) := by rw [h]; exact List.mem_cons_self
        unfold Region.ready at hk
        obtain ⟨k1, k2⟩ := List.mem_filter.1 hk
        rw [Bool.and_eq_true] at k2
        have k3 := k2.1
        have k4 := List.mem_range.1 k1
        by_cases e : k = i
        · subst e
          simp [Array.getD_eq_getD_getElem?, Array.getElem?_setIfInBounds, show k < listed.size by omega] at k3
        · have k5 := hother k k4 (by simpa using e)
          simp only [Array.getD_eq_getD_getElem?, Array.getElem?_setIfInBounds, if_neg (show ¬ i = k from fun h => e h.symm)] at k3 k5
          rw [k5] at k3
          cases k3
    · by_cases hia : i = ap
      · subst hia
        have hod : o.dst.isSome = true := by rw [ho] at hap3; exact of_decide_eq_true hap3
        have hst := hI.st
        simp only [hnl, Bool.false_eq_true, if_false] at hst
        exact happ o ho a w hI.grown hst hneed hI.out K (fun v w' hg hR hj => hK _ _ (hrec _ _ hil (hI.app hmono hc ho hod hg hR hj)))
      · exact hstep i o ho hil hia a w hI.grown hneed hI.out K (fun v w' hl hR => hK _ _ (hrec _ _ hil (hI.step hmono hJ hc rfl ho hia hap1 hl hR)))
theorem wp_region_invA {last ap : Nat} (hm : P.follows .mixedOrders = true) {id : Nat} {a0 : Act} {w : World} (hmono : ∀ i v w1 w', w.heap.size ≤ w1.heap.size → w1.grownBy w' row → R i v w1 → R i v w') (hJ : ∀ b v w w', Later w w' → J b v w → J b v w') (hc : checkD ops a0.tmps.size = true) (hcl : lastD ops last = true) (hapd : decide (ap < ops.size) && decide (ap ≠ last) && ((ops[ap]?).bind (·.dst)).isSome = true) (hst : J false undef w.drew)
    (hstep : ∀ i o, ops[i]? = some o → i ≠ last → i ≠ ap → StepA P ops Q R row w.drew a0 i o) (happ : ∀ o, ops[ap]? = some o → StepAp P ops Q R J row w.drew a0 ap o) (hlast : ∀ o, ops[last]? = some o → LastA P ops Q R J row ap w.drew a0 last o) (hend : ops.size ≤ last → ∀ a w', InvA ops R J row ap w.drew a0 (fun _ => true) a w' → Q .normal a w') :
    (Code.region id ops true).wp P Q a0 w := by
  have hap1 : ap < ops.size := by
    rw [Bool.and_eq_true, Bool.and_eq_true] at hapd
    exact of_decide_eq_true hapd.1.1
  have hfalse : (Array.replicate ops.size false).getD ap true = false := by simp [Array.getD, hap1]
  refine wp_region_any hm (wpAny_invA (w0 := w.drew) (fun i v w1 w' h => hmono i v w1 w' h) hJ hc hcl hapd hstep happ hlast hend ops.size _ a0 w.drew (by simp) ?_ (fun h => by simp [Array.getD, h]) ⟨grown_below (Below.refl _ _) row, rfl, rfl, fun _ _ => rfl, fun i hi hl => ?_, ?_⟩)
  · unfold leftD
    refine Nat.le_trans (List.length_filter_le _ _) (by rw [List.length_range]; exact Nat.le_refl _)
  · simp [Array.getD, hi] at hl
  · simp only [hfalse, Bool.false_eq_true, if_false]
    exact hst
end
/-- What a region leaves: the slots that it does not write. -/
theorem tmps_of {a a0 : Array Value} : ∀ {L : List Nat}, a.size = a0.size → (∀ t, t ∉ L → a.getD t undef = a0.getD t undef) → a = L.foldl (fun b t => b.setIfInBounds t (a.getD t undef)) a0
  | [], hs, ho => by
    show a = a0
    refine Array.ext hs fun i h1 h2 => ?_
    have := ho i (by simp)
    rw [Array.getD_eq_getD_getElem?, Array.getD_eq_getD_getElem?, Array.getElem?_eq_getElem h1, Array.getElem?_eq_getElem h2] at this
    exact this
  | x :: L, hs, ho => by
    rw [List.foldl_cons]
    refine tmps_of (L := L) (by simpa using hs) fun t ht => ?_
    by_cases e : t = x
    · subst e
      by_cases h : t < a0.size
      · simp [Array.getD, h, hs]
      · simp [Array.getD, h, hs]
    · rw [ho t (by simp [e, ht])]
      simp [Array.getD_eq_getD_getElem?, Array.getElem?_setIfInBounds, show ¬ x = t from fun h => e h.symm]
/-! ### Facts that last -/
/-- A fact that lasts while blocks from B on stay, and 'row' lies below B. -/
structure SpecA (B : Nat) (row : Option Nat) where
  r : Value → World → Prop
  mono : ∀ v w w', B ≤ w.heap.size → w.grownBy w' row → r v w → r v w'
def SpecA.is {B : Nat} {row : Option Nat} (x : Value) : SpecA B row := ⟨fun v _ => v = x, fun _ _ _ _ _ h => h⟩
def SpecA.any {B : Nat} {row : Option Nat} : SpecA B row := ⟨fun _ _ => True, fun _ _ _ _ _ h => h⟩
theorem grown_blk {w w' : World} {row : Option Nat} {B g : Nat} {o : Obj} (hrow : ∀ k, row = some k → k < B) (hB : B ≤ g) (hg : w.heap[g]? = some o) (h : w.grownBy w' row) : w'.heap[g]? = some o :=
  (h.block g (blk_lt hg) (fun e => absurd (hrow g e.symm) (by omega))).trans hg
/-- f of a new block that holds these cells. -/
def SpecA.blk {B : Nat} {row : Option Nat} (hrow : ∀ k, row = some k → k < B) (f : Nat → Value) (cs : Array Value) (t : TypeId) : SpecA B row :=
  ⟨fun v w => ∃ g, B ≤ g ∧ v = f g ∧ w.heap[g]? = some (.cells cs t (0, 0)), fun _ _ _ _ hg ⟨g, h0, h1, h2⟩ => ⟨g, h0, h1, grown_blk hrow h0 h2 hg⟩⟩
/-- A slice of the region's own. -/
def SpecA.own {B : Nat} {row : Option Nat} (hrow : ∀ k, row = some k → k < B) {α : Type} (f : α → List Value) (s : Nat) (e : TypeId) (mk : Option Addr → Nat → Value) (l : List α) : SpecA B row :=
  ⟨fun v w => ∃ A c, v = mk A c ∧ l.length ≤ c ∧ c ≤ maxLen ∧ Own f s e B w (.slice A l.length c) l, fun _ _ _ _ hg ⟨A, c, h1, h2, h3, h4⟩ => ⟨A, c, h1, h2, h3, h4.kept hg (by
    cases hv : (Value.slice A l.length c).ownBlock with
    | none => exact .inl rfl
    | some g => exact .inr fun e1 => absurd (hrow g e1.symm) (Nat.not_lt.2 (World.ownsRow.lt h4 g hv).1))⟩⟩
def specRA {B : Nat} {row : Option Nat} (l : List (SpecA B row)) (i : Nat) (v : Value) (w : World) : Prop := (l.getD i SpecA.any).r v w
theorem specRA_mono {B : Nat} {row : Option Nat} (l : List (SpecA B row)) : ∀ i v w w', B ≤ w.heap.size → w.grownBy w' row → specRA l i v w → specRA l i v w' := fun i v w w' => (l.getD i SpecA.any).mono v w w'
end Go.Proofs.YtjegncmkebbdfaaGreatDoor

namespace Go.Proofs.YtjegncmkebbdfaaGreatDoor
open Go.RowKit
theorem nodeT : ElemT Tryz.prog 25 51 5 56 := ElemT.mk' (z := .agg #[.int .i64 0, .int .i64 0, .int .i64 0, .int .i64 0, .slice none 0 0]) Tryz.underlying25 (by kernel_rfl) rfl
abbrev nodeArr (n : NodeE) (A : Option Addr) (c : Nat) : Array Value := #[.int .i64 n.iDMachine, .int .i64 n.iDSerial, .int .i64 n.kind, .int .i64 n.clas, .slice A n.fields.length c]
/-- A node whose fields were copied to A. -/
abbrev nodeAt (n : NodeE) (A : Option Addr) (c : Nat) : NodeE := ⟨n.iDMachine, n.iDSerial, n.kind, n.clas, A, c, n.fields⟩
def SpecA.nodeBlk {B : Nat} {row : Option Nat} (hrow : ∀ k, row = some k → k < B) (n : NodeE) : SpecA B row :=
  ⟨fun v w => ∃ A c g, B ≤ g ∧ v = .slice (some ⟨g, 0, none⟩) 1 1 ∧ w.heap[g]? = some (.cells (nodeArr n A c) 51 (0, 0)) ∧ n.fields.length ≤ c ∧ c ≤ maxLen ∧ Own ValE.cells 4 46 B w (.slice A n.fields.length c) n.fields,
    fun v w w' hB hg ⟨A, c, g, h0, h1, h2, h3, h4, h5⟩ => ⟨A, c, g, h0, h1, grown_blk hrow h0 h2 hg, h3, h4, h5.kept hg (by
      cases hv : (Value.slice A n.fields.length c).ownBlock with
      | none => exact .inl rfl
      | some k => exact .inr fun e1 => absurd (hrow k e1.symm) (Nat.not_lt.2 (World.ownsRow.lt h5 k hv).1))⟩⟩
/-- The own list of nodes before and behind the append. -/
def appJ (base : Nat) (o : List NodeE) (n : NodeE) (OA : Option Addr) (OC : Nat) (b : Bool) (v : Value) (u : World) : Prop :=
  match b with
  | true => ∃ A c A' c', v = .slice A' (o.length + 1) c' ∧ Own NodeE.cells 5 51 base u (.slice A' (o.length + 1) c') (o ++ [nodeAt n A c]) ∧ (∀ m ∈ o ++ [nodeAt n A c], Own ValE.cells 4 46 base u (.slice m.A m.fields.length m.c) m.fields) ∧ n.fields.length ≤ c ∧ c ≤ maxLen
  | false => Own NodeE.cells 5 51 base u (.slice OA o.length OC) o ∧ ∀ m ∈ o, Own ValE.cells 4 46 base u (.slice m.A m.fields.length m.c) m.fields
theorem appJ_mono (base : Nat) (o : List NodeE) (n : NodeE) (OA : Option Addr) (OC : Nat) : ∀ b v w w', Later w w' → appJ base o n OA OC b v w → appJ base o n OA OC b v w' := fun b v w w' l h => by
  cases b with
  | true =>
    obtain ⟨A, c, A', c', h1, h2, h3, h4⟩ := h
    exact ⟨A, c, A', c', h1, h2.below l.below, fun m hm => (h3 m hm).below l.below, h4⟩
  | false => exact ⟨h.1.below l.below, fun m hm => (h.2 m hm).below l.below⟩
theorem appJ_start {base : Nat} {o : List NodeE} {n : NodeE} {OA : Option Addr} {OC : Nat} {w w' : World} (h1 : Own NodeE.cells 5 51 base w (.slice OA o.length OC) o) (h2 : ∀ m ∈ o, Own ValE.cells 4 46 base w (.slice m.A m.fields.length m.c) m.fields) (hb : Below w.heap.size w w') {v : Value} :
    appJ base o n OA OC false v w' := ⟨h1.below hb, fun m hm => (h2 m hm).below hb⟩
theorem appJ_done {base B : Nat} {o : List NodeE} {n : NodeE} {OA A A' : Option Addr} {OC c c' : Nat} {u u' : World} (h1 : Own NodeE.cells 5 51 base u (.slice OA o.length OC) o) (h2 : ∀ m ∈ o, Own ValE.cells 4 46 base u (.slice m.A m.fields.length m.c) m.fields)
    (h3 : Own ValE.cells 4 46 B u (.slice A n.fields.length c) n.fields) (hc1 : n.fields.length ≤ c) (hc2 : c ≤ maxLen) (hB : base ≤ B) (ho : Own NodeE.cells 5 51 base u' (.slice A' (o.length + 1) c') (o ++ [nodeAt n A c])) (hst : Step u u' (.slice OA o.length OC) (.slice A' (o.length + 1) c')) :
    appJ base o n OA OC true (.slice A' (o.length + 1) c') u' := by
  have hne : (51 : TypeId) ≠ 46 := by decide
  refine ⟨A, c, A', c', rfl, ho, fun m hm => ?_, hc1, hc2⟩
  rcases List.mem_append.1 hm with hm | hm
  · exact (hst.own (h2 m hm) (own_apart h1 (h2 m hm) hne)).1
  · rw [List.mem_singleton] at hm
    subst hm
    have h4 := h3.mono hB
    exact (hst.own h4 (own_apart h1 h4 hne)).1
end Go.Proofs.YtjegncmkebbdfaaGreatDoor

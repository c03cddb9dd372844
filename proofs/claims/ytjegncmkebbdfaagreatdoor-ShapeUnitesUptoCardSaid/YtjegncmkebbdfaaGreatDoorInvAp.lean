/-
  A region that draws its order, appends to a slice of the call's own and stores at its end, walked once. Conditions stand in each theorem.
-/
import Derived.Test.YtjegncmkebbdfaaGreatDoorInvLib
import Derived.Test.YtjegncmkebbdfaaGreatDoorOwnLib
set_option linter.unusedSimpArgs false
set_option linter.unusedVariables false
namespace Go.Proofs.YtjegncmkebbdfaaGreatDoor
open Go.RowKit
section
variable {P : Program} {ops : Array Oper} {Q : Exit → Act → World → Prop} {R : Nat → Value → World → Prop} {J : Bool → Value → World → Prop} {row : Option Nat} {w0 : World} {a0 : Act}
/-- What holds while the operations are listed one by one: 'ap' is the one that appends, 'row' the block in which it may write. -/
structure InvA (ops : Array Oper) (R : Nat → Value → World → Prop) (J : Bool → Value → World → Prop) (row : Option Nat) (ap : Nat) (w0 : World) (a0 : Act) (listed : Nat → Bool) (a : Act) (w : World) : Prop where
  grown : w0.grownBy w row
  defers : a.defers = a0.defers
  size : a.tmps.size = a0.tmps.size
  out : ∀ t, t ∉ dstL ops → a.tmps.getD t undef = a0.tmps.getD t undef
  got : ∀ i, i < ops.size → listed i = true → R i (valD ops a i) w
  st : J (listed ap) (if listed ap then valD ops a ap else undef) w
/-- What an operation must do that only makes memory and reads. -/
def StepA (P : Program) (ops : Array Oper) (Q : Exit → Act → World → Prop) (R : Nat → Value → World → Prop) (row : Option Nat) (w0 : World) (a0 : Act) (i : Nat) (o : Oper) : Prop :=
  ∀ a w, w0.grownBy w row → (∀ j ∈ needsD ops i, R j (valD ops a j) w) → (∀ t, t ∉ dstL ops → a.tmps.getD t undef = a0.tmps.getD t undef) → ∀ K : Act → World → Prop, (∀ v w', Later w w' → R i (if o.dst.isSome then v else undef) w' → K (a.put o.dst v) w') →
    if Region.wanted o (yielded ops a.tmps) = true then Oper.wp P o a w K Q else K (a.put o.dst undef) w
/-- What the append must do. -/
def StepAp (P : Program) (ops : Array Oper) (Q : Exit → Act → World → Prop) (R : Nat → Value → World → Prop) (J : Bool → Value → World → Prop) (row : Option Nat) (w0 : World) (a0 : Act) (i : Nat) (o : Oper) : Prop :=
  ∀ a w, w0.grownBy w row → J false undef w → (∀ j ∈ needsD ops i, R j (valD ops a j) w) → (∀ t, t ∉ dstL ops → a.tmps.getD t undef = a0.tmps.getD t undef) → ∀ K : Act → World → Prop, (∀ v w', w.grownBy w' row → R i v w' → J true v w' → K (a.put o.dst v) w') →
    if Region.wanted o (yielded ops a.tmps) = true then Oper.wp P o a w K Q else K (a.put o.dst undef) w
def LastA (P : Program) (ops : Array Oper) (Q : Exit → Act → World → Prop) (R : Nat → Value → World → Prop) (J : Bool → Value → World → Prop) (row : Option Nat) (ap : Nat) (w0 : World) (a0 : Act) (last : Nat) (o : Oper) : Prop :=
  ∀ a w, InvA ops R J row ap w0 a0 (fun j => j != last) a w → ∀ K : Act → World → Prop, (∀ a' w', Q .normal a' w' → K a' w') → if Region.wanted o (yielded ops a.tmps) = true then Oper.wp P o a w K Q else K (a.put o.dst undef) w
theorem InvA.step {listed : Nat → Bool} {a : Act} {w : World} {n i ap : Nat} {o : Oper} (hmono : ∀ i v w w', w0.heap.size ≤ w.heap.size → w.grownBy w' row → R i v w → R i v w') (hJ : ∀ b v w w', Later w w' → J b v w → J b v w') (hc : checkD ops a0.tmps.size = true) (hn : n = a0.tmps.size) (hI : InvA ops R J row ap w0 a0 listed a w) (ho : ops[i]? = some o) (hap : i ≠ ap) (hapd : ap < ops.size)
    {v : Value} {w' : World} (hl : Later w w') (hR : R i (if o.dst.isSome then v else undef) w') : InvA ops R J row ap w0 a0 (fun j => if j = i then true else listed j) (a.put o.dst v) w' := by
  have hi : i < ops.size := (Array.getElem?_eq_some_iff.1 ho).1
  have hd : dstD ops i = o.dst := by unfold dstD; rw [ho]; rfl
  have hval : ∀ j, j < ops.size → j ≠ i → valD ops (a.put o.dst v) j = valD ops a j := fun j hj e => by
    unfold valD
    cases hdj : dstD ops j with
    | none => rfl
    | some d => exact getD_put_ne fun h2 => e (checkD_inj hc hj hi hdj (hd.trans h2))
  have hgr : w.grownBy w' row := grown_below hl.below row
  refine ⟨hI.grown.trans hgr, by rw [defers_put, hI.defers], by rw [size_put, hI.size], fun t ht => ?_, fun j hj hlj => ?_, ?_⟩
  · rw [getD_put_ne (fun e => ht (dstL_mem hi (hd.trans e))), hI.out t ht]
  · by_cases e : j = i
    · subst e
      unfold valD
      rw [hd]
      cases hod : o.dst with
      | none => rw [hod] at hR; exact hR
      | some d =>
        rw [hod] at hR hd
        have := (checkD_dst hc hi hd).1
        show R j ((a.put (some d) v).tmps.getD d undef) w'
        rw [getD_put_same (by rw [hI.size]; exact this)]
        exact hR
    · rw [if_neg e] at hlj
      rw [hval j hj e]
      exact hmono j _ w w' hI.grown.size hgr (hI.got j hj hlj)
  · show J (if ap = i then true else listed ap) (if (if ap = i then true else listed ap) = true then valD ops (a.put o.dst v) ap else undef) w'
    rw [if_neg (fun h => hap h.symm), hval ap hapd (fun h => hap h.symm)]
    exact hJ _ _ w w' hl hI.st
theorem InvA.app {listed : Nat → Bool} {a : Act} {w : World} {ap : Nat} {o : Oper} (hmono : ∀ i v w w', w0.heap.size ≤ w.heap.size → w.grownBy w' row → R i v w → R i v w') (hc : checkD ops a0.tmps.size = true) (hI : InvA ops R J row ap w0 a0 listed a w) (ho : ops[ap]? = some o) (hod : o.dst.isSome = true)
    {v : Value} {w' : World} (hg : w.grownBy w' row) (hR : R ap v w') (hj : J true v w') : InvA ops R J row ap w0 a0 (fun j => if j = ap then true else listed j) (a.put o.dst v) w' := by
  have hi : ap < ops.size := (Array.getElem?_eq_some_iff.1 ho).1
  have hd : dstD ops ap = o.dst := by unfold dstD; rw [ho]; rfl
  obtain ⟨d, hdd⟩ := Option.isSome_iff_exists.1 hod
  have hself : valD ops (a.put o.dst v) ap = v := by
    unfold valD
    rw [hd, hdd]
    have := (checkD_dst hc hi (hd.trans hdd)).1
    show (a.put (some d) v).tmps.getD d undef = v
    rw [getD_put_same (by rw [hI.size]; exact this)]
  refine ⟨hI.grown.trans hg, by rw [defers_put, hI.defers], by rw [size_put, hI.size], fun t ht => ?_, fun j hjs hlj => ?_, ?_⟩
  · rw [getD_put_ne (fun e => ht (dstL_mem hi (hd.trans e))), hI.out t ht]
  · by_cases e : j = ap
    · subst e; rw [hself]; exact hR
    · rw [if_neg e] at hlj
      have : valD ops (a.put o.dst v) j = valD ops a j := by
        unfold valD
        cases hdj : dstD ops j with
        | none => rfl
        | some d => exact getD_put_ne fun h2 => e (checkD_inj hc hjs hi hdj (hd.trans h2))
      rw [this]
      exact hmono j _ w w' hI.grown.size hg (hI.got j hjs hlj)
  · show J (if ap = ap then true else listed ap) (if (if ap = ap then true else listed ap) = true then valD ops (a.put o.dst v) ap else undef) w'
    rw [if_pos rfl, if_pos rfl, hself]
    exact hj
theorem wpAny_invA {last ap : Nat} (hmono : ∀ i v w w', w0.heap.size ≤ w.heap.size → w.grownBy w' row → R i v w → R i v w') (hJ : ∀ b v w w', Later w w' → J b v w → J b v w') (hc : checkD ops a0.tmps.size = true) (hcl : lastD ops last = true) (hapd : decide (ap < ops.size) && decide (ap ≠ last) && ((ops[ap]?).bind (·.dst)).isSome = true)
    (hstep : ∀ i o, ops[i]? = some o → i ≠ last → i ≠ ap → StepA P ops Q R row w0 a0 i o) (happ : ∀ o, ops[ap]? = some o → StepAp P ops Q R J row w0 a0 ap o) (hlast : ∀ o, ops[last]? = some o → LastA P ops Q R J row ap w0 a0 last o) (hend : ops.size ≤ last → ∀ a w, InvA ops R J row ap w0 a0 (fun _ => true) a w → Q .normal a w) :
    ∀ (fuel : Nat) (listed : Array Bool) (a : Act) (w : World), listed.size = ops.size → leftD ops.size listed ≤ fuel → (last < ops.size → listed.getD last true = false) → InvA ops R J row ap w0 a0 (fun i => listed.getD i true) a w → wpAny P .any ops Q fuel listed a w := by
  rw [Bool.and_eq_true, Bool.and_eq_true] at hapd
  obtain ⟨⟨hap1, hap2⟩, hap3⟩ := hapd
  have hap1 := of_decide_eq_true hap1
  have hap2 := of_decide_eq_true hap2
  have hall : ∀ (listed : Array Bool) (a : Act) (w : World), listed.size = ops.size → (last < ops.size → listed.getD last true = false) → InvA ops R J row ap w0 a0 (fun i => listed.getD i true) a w → Region.ready .any ops listed = [] → Q .normal a w := fun listed a w hs hnl hI hr => by
    have key : ∀ i, i < ops.size → listed.getD i true = true := fun i => by
      induction i using Nat.strongRecOn with
      | _ i ih =>
        intro hi
        by_cases hl : listed.getD i true = true
        · exact hl
        · exfalso
          have : i ∈ Region.ready .any ops listed := by
            unfold Region.ready
            rw [List.mem_filter]
            refine ⟨List.mem_range.2 hi, ?_⟩
            have hl' : listed.getD i true = false := by simpa using hl
            rw [hl', Array.getElem?_eq_getElem hi]
            simp only [Bool.not_false, Bool.true_and, Option.map_some, Option.getD_some]
            rw [Array.all_eq_true]
            intro j hj
            cases hb : Region.binds .any (ops[i].after[j]) with
            | false => rfl
            | true =>
              have hn : (ops[i].after[j]).on ∈ needsD ops i := by
                unfold needsD
                rw [Array.getElem?_eq_getElem hi]
                exact List.mem_map.2 ⟨ops[i].after[j], List.mem_filter.2 ⟨by simp, hb⟩, rfl⟩
              have hlt := checkD_needs hc hi hn
              have h1 := ih _ hlt (by omega)
              have : listed.getD (ops[i].after[j]).on false = true := by
                have hs2 : (ops[i].after[j]).on < listed.size := by omega
                simp only [Array.getD, hs2, dif_pos] at h1 ⊢
                exact h1
              rw [this]; rfl
          rw [hr] at this; cases this
    have hle : ops.size ≤ last := by
      rcases Nat.lt_or_ge last ops.size with h | h
      · have h1 := key last h
        rw [hnl h] at h1; cases h1
      · exact h
    have hst := hI.st
    simp only [key ap hap1, if_true] at hst
    exact hend hle a w ⟨hI.grown, hI.defers, hI.size, hI.out, fun i hi _ => hI.got i hi (key i hi), hst⟩
  intro fuel
  induction fuel with
  | zero =>
    intro listed a w hs hf hlf hI
    have hr : Region.ready .any ops listed = [] := by
      rcases h : Region.ready .any ops listed with _ | ⟨i, rs⟩
      · rfl
      · exfalso
        have hi : i ∈ Region.ready .any ops listed := by rw [h]; exact List.mem_cons_self
        unfold Region.ready at hi
        obtain ⟨h1, h2⟩ := List.mem_filter.1 hi
        rw [Bool.and_eq_true] at h2
        have : i ∈ (List.range ops.size).filter fun i => !listed.getD i true := List.mem_filter.2 ⟨h1, h2.1⟩
        unfold leftD at hf
        have := List.length_pos_of_mem this
        omega
    exact ⟨hr, hall listed a w hs hlf hI hr⟩
  | succ fuel ih =>
    intro listed a w hs hf hlf hI
    refine ⟨fun hr => hall listed a w hs hlf hI hr, fun i hi => ?_⟩
    unfold Region.ready at hi
    obtain ⟨h1, h2⟩ := List.mem_filter.1 hi
    rw [Bool.and_eq_true] at h2
    have hi' := List.mem_range.1 h1
    have hnl : listed.getD i true = false := by simpa using h2.1
    obtain ⟨o, ho⟩ : ∃ o, ops[i]? = some o := ⟨_, Array.getElem?_eq_getElem hi'⟩
    have hal : ∀ j ∈ needsD ops i, listed.getD j true = true := fun j hj => by
      unfold needsD at hj
      rw [ho] at hj h2
      obtain ⟨e, he, rfl⟩ := List.mem_map.1 hj
      obtain ⟨he1, he2⟩ := List.mem_filter.1 he
      have h3 := h2.2
      simp only [Option.map_some, Option.getD_some] at h3
      rw [Array.all_eq_true'] at h3
      have h4 := h3 e (by simpa using he1)
      rw [he2] at h4
      simp only [Bool.not_true, Bool.false_or] at h4
      by_cases hs2 : e.on < listed.size
      · simp only [Array.getD, hs2, dif_pos] at h4 ⊢
        exact h4
      · simp only [Array.getD, hs2, dif_neg, not_false_eq_true] at h4
        cases h4
    have hset : ∀ (j : Nat), j < ops.size → (listed.setIfInBounds i true).getD j true = if j = i then true else listed.getD j true := fun j hj => by
      by_cases e : j = i
      · subst e
        simp [Array.getD_eq_getD_getElem?, Array.getElem?_setIfInBounds, show j < listed.size by omega]
      · rw [if_neg e]
        simp [Array.getD_eq_getD_getElem?, Array.getElem?_setIfInBounds, show ¬ i = j from fun h => e h.symm]
    have hrec : ∀ a' w', i ≠ last → InvA ops R J row ap w0 a0 (fun j => if j = i then true else listed.getD j true) a' w' → wpAny P .any ops Q fuel (listed.setIfInBounds i true) a' w' := fun a' w' hil hI' => by
      refine ih _ _ _ (by simpa using hs) ?_ (fun h => by
        have h1 := hlf h
        rw [hset last h, if_neg (fun e => hil e.symm)]
        exact h1) ⟨hI'.grown, hI'.defers, hI'.size, hI'.out, fun j hj hlj => hI'.got j hj (by rw [← hset j hj]; exact hlj), by
          have hst := hI'.st
          show J ((listed.setIfInBounds i true).getD ap true) (if (listed.setIfInBounds i true).getD ap true = true then valD ops a' ap else undef) w'
          rw [hset ap hap1]
          exact hst⟩
      have : leftD ops.size (listed.setIfInBounds i true) < leftD ops.size listed := by
        unfold leftD
        have h3 : i ∈ (List.range ops.size).filter fun j => !listed.getD j true := List.mem_filter.2 ⟨h1, h2.1⟩
        have h4 : ((List.range ops.size).filter fun j => !(listed.setIfInBounds i true).getD j true) = ((List.range ops.size).filter fun j => !listed.getD j true).erase i := by
          rw [List.Nodup.erase_eq_filter (List.Pairwise.filter _ List.nodup_range), List.filter_filter]
          apply List.filter_congr
          intro j hj
          by_cases e : j = i
          · subst e
            simp [Array.getD_eq_getD_getElem?, Array.getElem?_setIfInBounds, show j < listed.size by omega]
          · simp [Array.getD_eq_getD_getElem?, Array.getElem?_setIfInBounds, show ¬ i = j from fun h => e h.symm, e]
        rw [h4, List.length_erase_of_mem h3]
        have := List.length_pos_of_mem h3
        omega
      omega
    have hneed : ∀ j ∈ needsD ops i, R j (valD ops a j) w := fun j hj => hI.got j (by have := checkD_needs hc hi' hj; omega) (hal j hj)
    refine wpOp_step ho fun K hK => ?_
    by_cases hil : i = last
    · subst hil
      have hother : ∀ j, j < ops.size → (j != i) = true → listed.getD j true = true := fun j hj hji => hal j (lastD_needs hcl hi' hj (by simpa using hji))
      have hap4 : listed.getD ap true = true := hother ap hap1 (by simpa using hap2)
      refine hlast o ho a w ⟨hI.grown, hI.defers, hI.size, hI.out, fun j hj hji => hI.got j hj (hother j hj hji), ?_⟩ K (fun a' w' hQ => hK _ _ (wpAny_done ?_ hQ _))
      · have hst := hI.st
        simp only [hap4, if_true] at hst
        have : (ap != i) = true := by simpa using hap2
        simp only [this, if_true]
        exact hst
      rcases h : Region.ready .any ops (listed.setIfInBounds i true) with _ | ⟨k, rs⟩
      · rfl
      · exfalso
        have hk : k ∈ Region.ready .any ops (listed.setIfInBounds i true) := by rw [h]; exact List.mem_cons_self
        unfold Region.ready at hk
        obtain ⟨k1, k2⟩ := List.mem_filter.1 hk
        rw [Bool.and_eq_true] at k2
        have k3 := k2.1
        have k4 := List.mem_range.1 k1
        by_cases e : k = i
        · subst e
          simp [Array.getD_eq_getD_getElem?, Array.getElem?_setIfInBounds, show k < listed.size by omega] at k3
        · have k5 := hother k k4 (by simpa using e)
          simp only [Array.getD_eq_getD_getElem?, Array.getElem?_setIfInBounds, if_neg (show ¬ i = k from fun h => e h.symm)] at k3 k5
          rw [k5] at k3
          cases k3
    · by_cases hia : i = ap
      · subst hia
        have hod : o.dst.isSome = true := by rw [ho] at hap3; exact of_decide_eq_true hap3
        have hst := hI.st
        simp only [hnl, Bool.false_eq_true, if_false] at hst
        exact happ o ho a w hI.grown hst hneed hI.out K (fun v w' hg hR hj => hK _ _ (hrec _ _ hil (hI.app hmono hc ho hod hg hR hj)))
      · exact hstep i o ho hil hia a w hI.grown hneed hI.out K (fun v w' hl hR => hK _ _ (hrec _ _ hil (hI.step hmono hJ hc rfl ho hia hap1 hl hR)))
theorem wp_region_invA {last ap : Nat} (hm : P.follows .mixedOrders = true) {id : Nat} {a0 : Act} {w : World} (hmono : ∀ i v w1 w', w.heap.size ≤ w1.heap.size → w1.grownBy w' row → R i v w1 → R i v w') (hJ : ∀ b v w w', Later w w' → J b v w → J b v w') (hc : checkD ops a0.tmps.size = true) (hcl : lastD ops last = true) (hapd : decide (ap < ops.size) && decide (ap ≠ last) && ((ops[ap]?).bind (·.dst)).isSome = true) (hst : J false undef w.drew)
    (hstep : ∀ i o, ops[i]? = some o → i ≠ last → i ≠ ap → StepA P ops Q R row w.drew a0 i o) (happ : ∀ o, ops[ap]? = some o → StepAp P ops Q R J row w.drew a0 ap o) (hlast : ∀ o, ops[last]? = some o → LastA P ops Q R J row ap w.drew a0 last o) (hend : ops.size ≤ last → ∀ a w', InvA ops R J row ap w.drew a0 (fun _ => true) a w' → Q .normal a w') :
    (Code.region id ops true).wp P Q a0 w := by
  have hap1 : ap < ops.size := by
    rw [Bool.and_eq_true, Bool.and_eq_true] at hapd
    exact of_decide_eq_true hapd.1.1
  have hfalse : (Array.replicate ops.size false).getD ap true = false := by simp [Array.getD, hap1]
  refine wp_region_any hm (wpAny_invA (w0 := w.drew) (fun i v w1 w' h => hmono i v w1 w' h) hJ hc hcl hapd hstep happ hlast hend ops.size _ a0 w.drew (by simp) ?_ (fun h => by simp [Array.getD, h]) ⟨grown_below (Below.refl _ _) row, rfl, rfl, fun _ _ => rfl, fun i hi hl => ?_, ?_⟩)
  · unfold leftD
    refine Nat.le_trans (List.length_filter_le _ _) (by rw [List.length_range]; exact Nat.le_refl _)
  · simp [Array.getD, hi] at hl
  · simp only [hfalse, Bool.false_eq_true, if_false]
    exact hst
end
/-- What a region leaves: the slots that it does not write. -/
theorem tmps_of {a a0 : Array Value} : ∀ {L : List Nat}, a.size = a0.size → (∀ t, t ∉ L → a.getD t undef = a0.getD t undef) → a = L.foldl (fun b t => b.setIfInBounds t (a.getD t undef)) a0
  | [], hs, ho => by
    show a = a0
    refine Array.ext hs fun i h1 h2 => ?_
    have := ho i (by simp)
    rw [Array.getD_eq_getD_getElem?, Array.getD_eq_getD_getElem?, Array.getElem?_eq_getElem h1, Array.getElem?_eq_getElem h2] at this
    exact this
  | x :: L, hs, ho => by
    rw [List.foldl_cons]
    refine tmps_of (L := L) (by simpa using hs) fun t ht => ?_
    by_cases e : t = x
    · subst e
      by_cases h : t < a0.size
      · simp [Array.getD, h, hs]
      · simp [Array.getD, h, hs]
    · rw [ho t (by simp [e, ht])]
      simp [Array.getD_eq_getD_getElem?, Array.getElem?_setIfInBounds, show ¬ x = t from fun h => e h.symm]
/-! ### Facts that last -/
/-- A fact that lasts while blocks from B on stay, and 'row' lies below B. -/
structure SpecA (B : Nat) (row : Option Nat) where
  r : Value → World → Prop
  mono : ∀ v w w', B ≤ w.heap.size → w.grownBy w' row → r v w → r v w'
def SpecA.is {B : Nat} {row : Option Nat} (x : Value) : SpecA B row := ⟨fun v _ => v = x, fun _ _ _ _ _ h => h⟩
def SpecA.any {B : Nat} {row : Option Nat} : SpecA B row := ⟨fun _ _ => True, fun _ _ _ _ _ h => h⟩
theorem grown_blk {w w' : World} {row : Option Nat} {B g : Nat} {o : Obj} (hrow : ∀ k, row = some k → k < B) (hB : B ≤ g) (hg : w.heap[g]? = some o) (h : w.grownBy w' row) : w'.heap[g]? = some o :=
  (h.block g (blk_lt hg) (fun e => absurd (hrow g e.symm) (by omega))).trans hg
/-- f of a new block that holds these cells. -/
def SpecA.blk {B : Nat} {row : Option Nat} (hrow : ∀ k, row = some k → k < B) (f : Nat → Value) (cs : Array Value) (t : TypeId) : SpecA B row :=
  ⟨fun v w => ∃ g, B ≤ g ∧ v = f g ∧ w.heap[g]? = some (.cells cs t (0, 0)), fun _ _ _ _ hg ⟨g, h0, h1, h2⟩ => ⟨g, h0, h1, grown_blk hrow h0 h2 hg⟩⟩
/-- A slice of the region's own. -/
def SpecA.own {B : Nat} {row : Option Nat} (hrow : ∀ k, row = some k → k < B) {α : Type} (f : α → List Value) (s : Nat) (e : TypeId) (mk : Option Addr → Nat → Value) (l : List α) : SpecA B row :=
  ⟨fun v w => ∃ A c, v = mk A c ∧ l.length ≤ c ∧ c ≤ maxLen ∧ Own f s e B w (.slice A l.length c) l, fun _ _ _ _ hg ⟨A, c, h1, h2, h3, h4⟩ => ⟨A, c, h1, h2, h3, h4.kept hg (by
    cases hv : (Value.slice A l.length c).ownBlock with
    | none => exact .inl rfl
    | some g => exact .inr fun e1 => absurd (hrow g e1.symm) (Nat.not_lt.2 (World.ownsRow.lt h4 g hv).1))⟩⟩
def specRA {B : Nat} {row : Option Nat} (l : List (SpecA B row)) (i : Nat) (v : Value) (w : World) : Prop := (l.getD i SpecA.any).r v w
theorem specRA_mono {B : Nat} {row : Option Nat} (l : List (SpecA B row)) : ∀ i v w w', B ≤ w.heap.size → w.grownBy w' row → specRA l i v w → specRA l i v w' := fun i v w w' => (l.getD i SpecA.any).mono v w w'
end Go.Proofs.YtjegncmkebbdfaaGreatDoor

/-
  Small texts of this seat, put into one. Conditions stand in each theorem.
-/
import Derived.Test.YtjegncmkebbdfaaGreatDoorGrp30
import Derived.Deep.RegionHeld3
import Derived.Test.YtjegncmkebbdfaaGreatDoorGrpA
set_option linter.unusedSimpArgs false
set_option linter.unusedVariables false
namespace Go.Proofs.YtjegncmkebbdfaaGreatDoor
open Go.RowKit
attribute [local go_sem ↓] run_eql_id run_neq_id
attribute [local simp] heap_drew
/-- What putID gives: the list itself, or a new one. -/
def PutPost (A0 : Option Addr) (c0 : Nat) (es s : List IDE) (w : World) (r : Ending) (w' : World) : Prop := ∃ q A c, Hid (q = s) ∧ r = .returned (.slice A q.length c) ∧ ((A = A0 ∧ c = c0 ∧ q = es) ∨ Own IDE.cells 2 44 w.heap.size w' (.slice A q.length c) q) ∧ Below w.heap.size w w'
theorem Own.cap_le {α : Type} {f : α → List Value} {s : Nat} {e : TypeId} {base : Nat} {w : World} {A : Option Addr} {n c : Nat} {l : List α} (h : Own f s e base w (.slice A n c) l) : c ≤ maxLen := by
  rcases h.form with ⟨h0, _⟩ | ⟨g, cap, hv, _, _, _, hm⟩
  · injection h0 with _ _ h; rw [h]; simp
  · injection hv with _ _ h; rw [h]; exact hm
end Go.Proofs.YtjegncmkebbdfaaGreatDoor

namespace Go.Proofs.YtjegncmkebbdfaaGreatDoor
open Go.RowKit
theorem step_app2 {α : Type} {f : α → List Value} {s : Nat} {e : TypeId} {base : Nat} {w : World} {P : Program} {t : TypeId} {bytes : Nat} {ops : Array Oper} {o : Oper} {a : Act} {K : Act → World → Prop} {Q : Exit → Act → World → Prop} {E : Prop} {m n : Nat} (hgd : o.guard = none) (sl x : Operand)
    (ho : o.op = .call { callee := .builtin .append, args := #[sl, x], argTypes := #[t, t] }) (he : Enc f s) (ht : ElemT P t e s bytes) (A : Option Addr) (c : Nat) (l2 : List α) (l : List α) (v : Value)
    (hs : a.eval sl = v) (hx : a.eval x = .slice A m c) (hm : l2.length = m) (hn : l.length + m = n) (hown : Own f s e base w v l) (hsrc : SlAt f s w A l2)
    (hbytes : n * bytes ≤ 140737488355328) (h63 : n ≤ maxLen) (hbase : base ≤ w.heap.size)
    (h : ∀ A' c' w', Own f s e base w' (.slice A' n c') (l ++ l2) → c' ≤ maxLen → Step w w' v (.slice A' n c') → K (a.put o.dst (.slice A' n c')) w') :
    if Region.wanted o (yielded ops a.tmps) = true then Oper.wp P o a w K Q else E := by
  have hw : Region.wanted o (yielded ops a.tmps) = true := by simp [Region.wanted, hgd]
  rw [if_pos hw]
  subst hm hn
  obtain ⟨v', w', hrun, h2, h3, h4⟩ := run_app (P := P) (ty := o.type) he ht hown A c l2 hsrc hbytes h63 hbase
  unfold Oper.wp execOp
  simp only [ho, resolve, invoke, builtin, Sem.run_bind, Sem.run_pure, Result.andThen_ok, List.map_toArray, List.map_cons, List.map_nil, hs, hx, hrun]
  obtain ⟨A', c', rfl, _, hm, _⟩ := h2.slAt he
  rw [List.length_append] at h2 h4 ⊢
  exact h A' c' w' h2 hm ⟨h3, h4.imp id fun e => ⟨_, Nat.le_refl _, e⟩⟩
theorem own_type {α : Type} {f : α → List Value} {s : Nat} {e : TypeId} {base : Nat} {w : World} {v : Value} {l : List α} (h : Own f s e base w v l) {g : Nat} (hv : v.ownBlock = some g) : ∃ cs, w.heap[g]? = some (.cells cs e (0, 0)) := by
  rcases h.2 with ⟨h0, _⟩ | ⟨g', cap, cur, h0, _, hg, _⟩
  · rw [h0] at hv; cases hv
  · rw [h0] at hv; injection hv with hv; subst hv; exact ⟨cur, hg⟩
theorem own_apart {α β : Type} {f : α → List Value} {f' : β → List Value} {s s' : Nat} {e e' : TypeId} {base base' : Nat} {w : World} {v v' : Value} {l : List α} {l' : List β} (h : Own f s e base w v l) (h' : Own f' s' e' base' w v' l') (hne : e ≠ e') : Apart v v' := fun g h1 h2 => by
  obtain ⟨cs, hc⟩ := own_type h h1
  obtain ⟨cs', hc'⟩ := own_type h' h2
  rw [hc] at hc'
  injection hc' with hc'
  injection hc' with _ hc' _
  exact hne hc'
theorem own_off {α : Type} {f : α → List Value} {s : Nat} {e ty : TypeId} {base : Nat} {w : World} {v : Value} {l : List α} {g : Nat} {cs : Array Value} {fr : Nat × Nat} (h : Own f s e base w v l) (hg : w.heap[g]? = some (.cells cs ty fr)) (hne : e ≠ ty) : v.ownBlock ≠ some g := fun hv => by
  obtain ⟨cs', hc⟩ := own_type h hv
  rw [hg] at hc
  injection hc with hc
  injection hc with _ hc _
  exact hne hc.symm
section
variable {base : Nat} {w w' : World}
theorem Step.own {α : Type} {f : α → List Value} {s : Nat} {e : TypeId} {base : Nat} {w w' : World} {v v' u : Value} {l : List α} (h : Step w w' v v') (hu : Own f s e base w u l) (ha : Apart v u) : Own f s e base w' u l ∧ Apart v' u :=
  have k := ha.grown hu h.1 h.2
  ⟨k.2, k.1⟩
theorem apart_fresh {α β : Type} {f : α → List Value} {f' : β → List Value} {s s' B : Nat} {e e' : TypeId} {v v' : Value} {l : List α} {l' : List β} (h : Own f s e base w v l) (h' : Own f' s' e' B w' v' l') (hB : w.heap.size ≤ B) : Apart v' v := fun g h1 h2 => by
  have := (World.ownsRow.lt h g h2).2
  have := (World.ownsRow.lt h' g h1).1
  omega
theorem step_set {v : Value} {g i : Nat} {u : Value} (hv : v.ownBlock = some g) : Step w (w.setCell ⟨g, i, none⟩ u) v v := ⟨by rw [hv]; exact grown_setCell w ⟨g, i, none⟩ u, .inl rfl⟩
theorem Step.keep {α : Type} {f : α → List Value} {s : Nat} {e ty : TypeId} {v v' : Value} {l : List α} (h : Step w w' v v') (ho : Own f s e base w v l) {g : Nat} {cs : Array Value} (hg : w.heap[g]? = some (.cells cs ty (0, 0))) (hne : e ≠ ty) : w'.heap[g]? = some (.cells cs ty (0, 0)) := (h.boxed hg (own_off ho hg hne)).1
theorem Step.below {base : Nat} {α : Type} {f : α → List Value} {s : Nat} {e : TypeId} {v v' : Value} {l : List α} {w0 : World} (h : Step w w' v v') (ho : Own f s e base w v l) (hb : Below base w0 w) (hz : base ≤ w.heap.size) : Below base w0 w' := ho.belowGrown hb h.1 (Nat.le_refl _) hz
end
end Go.Proofs.YtjegncmkebbdfaaGreatDoor

namespace Go.Proofs.YtjegncmkebbdfaaGreatDoor
open Go.RowKit
attribute [local go_sem ↓] run_eql_id run_neq_id
attribute [local simp] heap_drew
def lenV (v : Value) : Nat := match v with | .slice _ n _ => n | _ => 0
/-- What the first k fields of a node refer to. -/
def refsTo (n : List ValE) (k : Nat) : List IDE := ((n.take k).filter fun v => v.kind == 2).map ValE.ref
theorem refsTo_succ {n : List ValE} {k : Nat} {v : ValE} (h : n[k]? = some v) : refsTo n (k + 1) = refsTo n k ++ (if v.kind = 2 then [v.ref] else []) := by
  unfold refsTo
  rw [take_snoc_get h, List.filter_append, List.map_append]
  by_cases hk : v.kind = 2 <;> simp [hk]
theorem refsTo_len (n : List ValE) (k : Nat) : (refsTo n k).length ≤ k := by
  unfold refsTo
  rw [List.length_map]
  exact Nat.le_trans (List.length_filter_le _ _) (by rw [List.length_take]; omega)
theorem refsTo_all {n : NodeC} (h : n.kind ≠ 2) : refsTo n.fields n.fields.length = refsOf n := by
  unfold refsTo refsOf
  rw [if_neg h, List.take_length]
/-- What a search gives: the reached identities, in a slice of the call's own. -/
def ReachPost (L : List NodeC) (roots : List IDE) (w : World) (r : Ending) (w' : World) : Prop := ∃ q A c, ReachL L roots q ∧ r = .returned (.slice A q.length c) ∧ Own IDE.cells 2 44 w.heap.size w' (.slice A q.length c) q ∧ Below w.heap.size w w'
theorem reach_in {L : List NodeC} {roots O T : List IDE} (h : DInv L roots O T) : ∀ x ∈ O, x ∈ ids L := fun x hx => firstN_ids.1 (h.sound x hx).node
theorem putI_new {l : List IDE} {x : IDE} (h : x ∉ l) : (putI l x).length = l.length + 1 := by
  unfold putI
  have := cntI_le x l
  rw [if_neg (fun e => h (List.mem_of_getElem? e))]
  simp only [List.length_append, List.length_take, List.length_drop, List.length_singleton]; omega
theorem drop_app {α : Type} {T R : List α} {i : Nat} (h : i ≤ T.length) (y : α) : y ∈ (T ++ R).drop i ↔ y ∈ T.drop i ∨ y ∈ R := by
  rw [List.drop_append_of_le_length h, List.mem_append]
theorem refsTo_zero (n : List ValE) : refsTo n 0 = [] := rfl
/-! The visit is over. -/
/-! The search visits x (node m), whose box is g; w8 the world. -/
end Go.Proofs.YtjegncmkebbdfaaGreatDoor

/-
  Reslices; appends inside regions that draw their order. Conditions stand in each theorem.
-/
import Derived.Test.YtnfpbkimdhhmfaaLater3
namespace Go.Proofs.Ytnfpbkimdhhmfaa
open Go.RowKit
section
variable {α : Type} {f : α → List Value} {s : Nat} {e : TypeId} {base : Nat} {w w' : World} {A : Option Addr} {l : List α} {v : Value}
theorem SlAt.take (h : SlAt f s w A l) (i : Nat) : SlAt f s w A (l.take i) := fun hl => by
  obtain ⟨b, off, e, hlt, hc⟩ := h (by rintro rfl; simp at hl)
  refine ⟨b, off, e, hlt, fun k x hk j u hu => hc k x ?_ j u hu⟩
  rw [List.getElem?_take] at hk
  split at hk
  · exact hk
  · cases hk
theorem SlAt.drop {b off : Nat} (h : SlAt f s w (some ⟨b, off, none⟩) l) (i : Nat) : SlAt f s w (some ⟨b, off + i * s, none⟩) (l.drop i) := fun hl => by
  obtain ⟨b', off', e, hlt, hc⟩ := h (by rintro rfl; simp at hl)
  injection e with e; injection e with e1 e2
  subst e1 e2
  refine ⟨b, off + i * s, rfl, hlt, fun k x hk j u hu => ?_⟩
  rw [List.getElem?_drop] at hk
  have := hc (i + k) x hk j u hu
  rw [Nat.add_mul] at this
  rw [show off + i * s + k * s + j = off + (i * s + k * s) + j by omega]
  exact this
theorem heap_drew (w : World) : w.drew.heap = w.heap := rfl
/-- An empty slice of the call's own, by its block. -/
theorem Own.empty_blk {g : Nat} (hb : base ≤ g) (h : w.heap[g]? = some (.cells #[] e (0, 0))) : Own f s e base w (.slice (some ⟨g, 0, none⟩) 0 0) ([] : List α) := by
  refine ⟨by simp, .inr ⟨g, 0, #[], rfl, hb, h, ?_⟩⟩
  simp [maxLen]
/-- append, as one step of a region that draws its order. -/
theorem step_app {P : Program} {t : TypeId} {bytes : Nat} {ops : Array Oper} {o : Oper} {a : Act} {K : Act → World → Prop} {Q : Exit → Act → World → Prop} {E : Prop} {m n : Nat} (hgd : o.guard = none) (sl x : Operand)
    (ho : o.op = .call { callee := .builtin .append, args := #[sl, x], argTypes := #[t, t] }) (he : Enc f s) (ht : ElemT P t e s bytes) (A : Option Addr) (c : Nat) (l2 : List α) (l : List α) (v : Value)
    (hs : a.eval sl = v) (hx : a.eval x = .slice A m c) (hm : l2.length = m) (hn : l.length + m = n) (hown : Own f s e base w v l) (hsrc : SlAt f s w A l2)
    (hbytes : n * bytes ≤ 140737488355328) (h63 : n ≤ maxLen) (hbase : base ≤ w.heap.size)
    (h : ∀ A' c' w', Own f s e base w' (.slice A' n c') (l ++ l2) → c' ≤ maxLen → Below base w w' → w.grownBy w' v.ownBlock → K (a.put o.dst (.slice A' n c')) w') :
    if Region.wanted o (yielded ops a.tmps) = true then Oper.wp P o a w K Q else E := by
  have hw : Region.wanted o (yielded ops a.tmps) = true := by simp [Region.wanted, hgd]
  rw [if_pos hw]
  subst hm hn
  obtain ⟨v', w', hrun, h2, h3, h4⟩ := run_app (P := P) (ty := o.type) he ht hown A c l2 hsrc hbytes h63 hbase
  unfold Oper.wp execOp
  simp only [ho, resolve, invoke, builtin, Sem.run_bind, Sem.run_pure, Result.andThen_ok, List.map_toArray, List.map_cons, List.map_nil, hs, hx, hrun]
  obtain ⟨A', c', rfl, _, hm, _⟩ := h2.slAt he
  rw [List.length_append] at h2 ⊢
  exact h A' c' w' h2 hm (hown.belowGrown (Below.refl _ _) h3 (Nat.le_refl _) hbase) h3
end
/-- The slice v has become v': other blocks stayed, and v' lies where v lay or in a new block. -/
def Step (w w' : World) (v v' : Value) : Prop := w.grownBy w' v.ownBlock ∧ (v'.ownBlock = v.ownBlock ∨ ∃ g, w.heap.size ≤ g ∧ v'.ownBlock = some g)
section
variable {w w' w'' : World} {v v' v'' : Value}
theorem Step.refl : Step w w v v := ⟨World.grownBy.refl w _, .inl rfl⟩
theorem Step.size (h : Step w w' v v') : w.heap.size ≤ w'.heap.size := by obtain ⟨⟨_, _, _, h, _⟩, _⟩ := h; exact h
theorem Step.block (h : Step w w' v v') {k : Nat} (hk : k < w.heap.size) (hne : v.ownBlock ≠ some k) : w'.heap[k]? = w.heap[k]? ∧ v'.ownBlock ≠ some k := by
  obtain ⟨⟨_, _, _, _, hg⟩, ha⟩ := h
  refine ⟨hg k hk (fun e => hne e.symm), ?_⟩
  rcases ha with ha | ⟨g, hge, ha⟩
  · rw [ha]; exact hne
  · rw [ha]; intro e; injection e with e; omega
theorem Step.trans (h : Step w w' v v') (k : Step w' w'' v' v'') : Step w w'' v v'' := by
  have hs := h.size
  have ks := k.size
  obtain ⟨⟨a, b, c, d, hg⟩, ha⟩ := id h
  obtain ⟨⟨a', b', c', d', kg⟩, ka⟩ := id k
  refine ⟨⟨a'.trans a, b'.trans b, c'.trans c, by omega, fun j hj hne => ?_⟩, ?_⟩
  · have := h.block hj (fun e => hne e.symm)
    exact (k.block (by omega) this.2).1.trans this.1
  · rcases ka with ka | ⟨g, hge, ka⟩
    · rw [ka]; exact ha
    · exact .inr ⟨g, by omega, ka⟩
theorem Step.drew (h : Step w w' v v') : Step w w'.drew v v' := by
  obtain ⟨⟨a, b, c, d, e⟩, f⟩ := h
  exact ⟨⟨a, b, c, d, e⟩, f⟩
/-- A block known whole, that is not the slice's. -/
theorem Step.boxed (h : Step w w' v v') {g : Nat} {c : Array Value} {t : TypeId} (hb : w.heap[g]? = some (.cells c t (0, 0))) (hne : v.ownBlock ≠ some g) : w'.heap[g]? = some (.cells c t (0, 0)) ∧ v'.ownBlock ≠ some g := by
  have := h.block (blk_lt hb) hne
  exact ⟨this.1.trans hb, this.2⟩
theorem Step.of_below (hb : Below w.heap.size w w') : Step w w' v v := ⟨grown_below hb _, .inl rfl⟩
end
end Go.Proofs.Ytnfpbkimdhhmfaa

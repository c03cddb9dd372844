/-
  Contracts of the functions of this seat that each theorem names: what a call returns, and that it writes nothing that was there before. The conditions stand in each theorem.
-/
import Derived.Test.YtjegncmkebbdfaaDoorGWalk2
set_option linter.unusedSimpArgs false
set_option linter.unusedVariables false
namespace Go.Proofs.YtjegncmkebbdfaaDoor
open Go.RowKit
attribute [local go_sem ↓] run_eql_id run_neq_id
attribute [local simp] heap_drew
theorem fold_put_len (l : List IDE) : ∀ a : List IDE, (l.foldl putI a).length ≤ a.length + l.length := by
  induction l with
  | nil => intro a; simp
  | cons x l ih =>
    intro a
    have h1 := ih (putI a x)
    have h2 := putI_len a x
    rw [List.foldl_cons, List.length_cons]
    omega
theorem fold_take {l a : List IDE} {k : Nat} {x : IDE} (h : l[k]? = some x) : (l.take (k + 1)).foldl putI a = putI ((l.take k).foldl putI a) x := by
  rw [List.take_add_one, h]
  simp
/-- The identities of two lists in increasing order. -/
def unionI (a b : List IDE) : List IDE := b.foldl putI (a.foldl putI [])
theorem unionI_spec (a b : List IDE) : SortedI (unionI a b) ∧ ∀ x, x ∈ unionI a b ↔ x ∈ a ∨ x ∈ b := by
  obtain ⟨h1, h2⟩ := setI_fold a [] List.Pairwise.nil
  obtain ⟨h3, h4⟩ := setI_fold b _ h1
  refine ⟨h3, fun x => ?_⟩
  unfold unionI
  rw [h4, h2]
  simp
def UIDPost (a b : List IDE) (w : World) (r : Ending) (w' : World) : Prop := ∃ q A c, Hid (q = unionI a b) ∧ r = .returned (.slice A q.length c) ∧ Own IDE.cells 2 31 w.heap.size w' (.slice A q.length c) q ∧ Below w.heap.size w w'
set_option maxRecDepth 100000 in
set_option maxHeartbeats 4000000 in
theorem unionIDs_any (A : Option Addr) (c : Nat) (a : List IDE) (B : Option Addr) (d : Nat) (b : List IDE) (w : World) (ha : SlAt IDE.cells 2 w A a) (hb : SlAt IDE.cells 2 w B b) (hal : a.length ≤ 1000000) (hbl : b.length ≤ 1000000) :
    Calls Tryd.prog 20 #[.slice A a.length c, .slice B b.length d] w (UIDPost a b w) := by
  have HA : ∀ u [Later w u], SlAt IDE.cells 2 u A a := fun u i => ha.below i.below
  have HB : ∀ u [Later w u], SlAt IDE.cells 2 u B b := fun u i => hb.below i.below
  have hal' : a.length ≤ 9223372036854775807 := by omega
  have hbl' : b.length ≤ 9223372036854775807 := by omega
  go_enter Tryd.func20, Tryd.ntmps20
  go_upto_region 2 with fail
  refine wp_name ?_
  intro w1 hw1
  have e1 : w1.heap[w.heap.size]? = some (.cells #[] 31 (0, 0)) := (by rw [← hw1]; simp only [heap_alloc_if, World.size_alloc]; repeat (first | rw [if_pos trivial] | rw [if_neg (by omega)] | rw [if_pos (by omega)]); try rfl)
  have hb1 : Below w.heap.size w w1 := by rw [← hw1]; exact (by repeat (first | with_reducible exact Below.refl _ _ | (with_reducible refine Below.drew ?_) | (with_reducible refine below_drewN ?_ _) | (with_reducible refine Below.alloc ?_ ?_ _; rotate_left; (first | omega | (simp <;> omega))) | (with_reducible refine Below.setCell ?_ ?_ _; rotate_left; (first | omega | (simp <;> omega)))))
  clear hw1
  have ho1 : Own IDE.cells 2 31 w.heap.size w1 (.slice (some ⟨w.heap.size, 0, none⟩) 0 0) ([] : List IDE) := Own.empty_blk (Nat.le_refl _) e1
  have l1 := later hb1
  go_wp2_with fail
  go_loopw [5, 6] (fun qv iv wr => ∃ (k : Nat) (q : List IDE) (QA : Option Addr) (QC : Nat), k ≤ a.length ∧ qv = .slice QA q.length QC ∧ iv = .int .i64 k ∧ Hid (q = (a.take k).foldl putI []) ∧ Own IDE.cells 2 31 w.heap.size wr (.slice QA q.length QC) q ∧ Below w.heap.size w wr) (fun _ iv _ => a.length - (intOf iv).toNat)
  case atStart => exact ⟨0, [], some ⟨w.heap.size, 0, none⟩, 0, by omega, rfl, rfl, hide rfl, ho1, hb1⟩
  case round =>
    clear ho1 hb1 l1
    obtain ⟨k, q, QA, QC, hk, rfl, rfl, hq, hqo, hbr⟩ := hrel
    have lr := later hbr
    have lrr : Later wr wr := Later.refl
    have hql : q.length ≤ k := by rw [hq.out]; have := fold_put_len (a.take k) []; rw [List.length_take] at this; simp at this ⊢; omega
    obtain ⟨_, hqc, hqs⟩ := hqo.at_ IDE.enc
    have hqm : QC ≤ maxLen := Own.cap_le hqo
    by_cases hlt : k < a.length
    · have hki : (k : Int) < (a.length : Int) := by omega
      obtain ⟨b1, o1, x, rfl, hx, C1⟩ := IDE.get (HA wr) hlt
      have hT := hide (fold_take (a := []) hx)
      have HP : ∀ u [Later wr u], Calls Tryd.prog 39 #[.slice QA q.length QC, x.v] u (PutPost QA QC q (putI q x) u) := fun u i => putID_any QA QC q x u (hqs.below i.below) (by omega) hqc hqm
      dsimp only [IDE.v] at HP
      clear hx
      go_wp2_with (go_at_call 39; refine (HP _).mono ?_; rintro r w2 ⟨q2, A2, c2, hq2, rfl, hor, hb2⟩; have l2 := later hb2)
      have hown2 : Own IDE.cells 2 31 w.heap.size w2 (.slice A2 q2.length c2) q2 := by
        rcases hor with ⟨rfl, rfl, rfl⟩ | h
        · exact hqo.below below_of
        · exact h.mono (by have h1 : Below w.heap.size w wr := hbr; exact h1.size)
      go_roundw
      case rel => exact ⟨k + 1, q2, A2, c2, by omega, rfl, by go_num, hide (by rw [hq2.out, hT.out, hq.out]), hown2, below_of⟩
      case measure => simp [intOf]; omega
    · have hkk : k = a.length := by omega
      subst hkk
      obtain ⟨wE, rfl⟩ : ∃ z, z = wr := ⟨_, rfl⟩
      have hq' := hide (show q = a.foldl putI [] by rw [hq.out, List.take_length])
      clear hq
      go_wp2_with fail
      go_loopw [5, 7] (fun qv iv wr => ∃ (k : Nat) (q : List IDE) (QA : Option Addr) (QC : Nat), k ≤ b.length ∧ qv = .slice QA q.length QC ∧ iv = .int .i64 k ∧ Hid (q = (b.take k).foldl putI (a.foldl putI [])) ∧ Own IDE.cells 2 31 w.heap.size wr (.slice QA q.length QC) q ∧ Below w.heap.size w wr) (fun _ iv _ => b.length - (intOf iv).toNat)
      case atStart => exact ⟨0, q, QA, QC, by omega, rfl, rfl, hq', hqo, hbr⟩
      case round =>
        clear hq' hqo hbr lr lrr hqc hqs hqm hql
        obtain ⟨k, q, QA, QC, hk, rfl, rfl, hq, hqo, hbr⟩ := hrel
        have lr := later hbr
        have lrr : Later wr wr := Later.refl
        have hql : q.length ≤ a.length + k := by
          rw [hq.out]
          have h1 := fold_put_len (b.take k) (a.foldl putI [])
          have h2 := fold_put_len a []
          rw [List.length_take] at h1
          simp at h2
          omega
        obtain ⟨_, hqc, hqs⟩ := hqo.at_ IDE.enc
        have hqm : QC ≤ maxLen := Own.cap_le hqo
        by_cases hlt : k < b.length
        · have hki : (k : Int) < (b.length : Int) := by omega
          obtain ⟨b1, o1, x, rfl, hx, C1⟩ := IDE.get (HB wr) hlt
          have hT := hide (fold_take (a := a.foldl putI []) hx)
          have HP : ∀ u [Later wr u], Calls Tryd.prog 39 #[.slice QA q.length QC, x.v] u (PutPost QA QC q (putI q x) u) := fun u i => putID_any QA QC q x u (hqs.below i.below) (by omega) hqc hqm
          dsimp only [IDE.v] at HP
          clear hx
          go_wp2_with (go_at_call 39; refine (HP _).mono ?_; rintro r w2 ⟨q2, A2, c2, hq2, rfl, hor, hb2⟩; have l2 := later hb2)
          have hown2 : Own IDE.cells 2 31 w.heap.size w2 (.slice A2 q2.length c2) q2 := by
            rcases hor with ⟨rfl, rfl, rfl⟩ | h
            · exact hqo.below below_of
            · exact h.mono (by have h1 : Below w.heap.size w wr := hbr; exact h1.size)
          go_roundw
          case rel => exact ⟨k + 1, q2, A2, c2, by omega, rfl, by go_num, hide (by rw [hq2.out, hT.out, hq.out]), hown2, below_of⟩
          case measure => simp [intOf]; omega
        · have hkk : k = b.length := by omega
          subst hkk
          have hfin := hide (show q = unionI a b by rw [hq.out, List.take_length]; rfl)
          go_wp2_with fail
          go_ret
          exact ⟨q, QA, QC, hfin, rfl, hqo.below below_of, below_of⟩
end Go.Proofs.YtjegncmkebbdfaaDoor

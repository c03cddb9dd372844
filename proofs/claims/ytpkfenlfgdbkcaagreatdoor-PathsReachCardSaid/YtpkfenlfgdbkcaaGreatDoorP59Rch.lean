/-
  Contracts of the functions of this seat that each theorem names: what a call returns, and that it writes nothing that was there before. The conditions stand in each theorem.
-/
import Derived.Test.YtpkfenlfgdbkcaaGreatDoorP59Hold
import Derived.Test.YtpkfenlfgdbkcaaGreatDoorGReach
set_option linter.unusedSimpArgs false
set_option linter.unusedVariables false
namespace Go.Proofs.YtpkfenlfgdbkcaaGreatDoor
open Go.RowKit
attribute [local go_sem] Oper.semAt_some Instr.makeFunc
attribute [local simp] heap_drew
attribute [local go_sem ↓] run_eql_id run_neq_id
/-- The identities that are reached: none where the views do not fit. -/
def RchPost (V : List ViewE) (w : World) (r : Ending) (w' : World) : Prop := ∃ q A c, Hid (((graphV V).2 ≠ 0 ∧ q = []) ∨ ((graphV V).2 = 0 ∧ ReachL (graphV V).1 (rootsV V) q)) ∧ r = .returned (.slice A q.length c) ∧ Own IDE.cells 2 24 w.heap.size w' (.slice A q.length c) q ∧ Below w.heap.size w w'
set_option maxRecDepth 200000 in
set_option maxHeartbeats 8000000 in
theorem reachable_any (A : Option Addr) (c : Nat) (V : List ViewE) (w : World) (H : ViewsAt w A V) (hf : FewV V) :
    Calls Tryz.prog 23 #[.slice A V.length c] w (RchPost V w) := by
  have HV := H.later
  have HG : ∀ u [Later w u], Calls Tryz.prog 15 #[.slice A V.length c] u (GraphPost V u) := fun u i => graph_any A c V u (HV u) hf
  have HRt : ∀ u [Later w u], Calls Tryz.prog 20 #[.slice A V.length c] u (RootsPost V u) := fun u i => roots_any A c V u (HV u) hf
  unfold GraphPost at HG
  obtain ⟨ge, hge⟩ : ∃ n, (graphV V).2 = n := ⟨_, rfl⟩
  rw [hge] at HG
  have Hge := hide hge
  clear hge
  have lww : Later w w := Later.refl
  go_enter Tryz.func23, Tryz.ntmps23
  by_cases hg0 : ge = 0
  · subst hg0
    go_upto_region 4 with (go_at_call 15; refine (HG _).mono ?_; rintro r w1 ⟨o, GA, gc, ho, rfl, hog, hb1⟩; have l1 := later hb1)
    refine wp_name ?_
    intro w2 hw2
    have b6 : w2.heap[w1.heap.size]? = some (.cells #[.slice GA o.length gc] 36 (0, 0)) := (by rw [← hw2]; simp only [heap_alloc_if, World.size_alloc]; repeat (first | rw [if_pos trivial] | rw [if_neg (by omega)] | rw [if_pos (by omega)]); try rfl)
    have hb12 : Below w1.heap.size w1 w2 := by rw [← hw2]; exact (by repeat (first | with_reducible exact Below.refl _ _ | (with_reducible refine Below.drew ?_) | (with_reducible refine below_drewN ?_ _) | (with_reducible refine Below.alloc ?_ ?_ _; rotate_left; (first | omega | (simp <;> omega))) | (with_reducible refine Below.setCell ?_ ?_ _; rotate_left; (first | omega | (simp <;> omega)))))
    clear hw2
    have lw2 : Later w w2 := ⟨hb1.trans (hb12.mono hb1.size)⟩
    have B6 := boxed b6
    have l22 : Later w2 w2 := Later.refl
    have hN := hog.nodes.below hb12
    have hN2 := hN.later
    have hoc : (conL o).length = o.length := by unfold conL; rw [List.length_map]
    have hol : o.length ≤ 1000 := by rw [← hoc, ho.out]; exact graph_len hf
    have hofl : ∀ n ∈ o, n.fields.length ≤ 1000 := fun n hn => by
      have : n.con.fields.length ≤ 30 := graph_fields (V := V) (by rw [← ho.out]; exact List.mem_map.2 ⟨n, hn, rfl⟩)
      show n.con.fields.length ≤ 1000
      omega
    clear hoc hb12 b6
    go_region_held3 (fun w' => ∀ b [Later b w2], Later b w') ((intro b _; infer_instance))
      ((first
        | (go_at_call 51; refine (reach_any GA gc o RA rc R _ (hN2 _) (hsR _) (by omega) (fun n hn => by have := hofl n hn; omega) (by have := hRl; omega)).mono ?_; rintro r w6 ⟨l, LA, LC, hl, rfl, hol2, hb6⟩; have l6 := later hb6)
        | (go_at_call 20; refine (HRt _).mono ?_; rintro r w5 ⟨R, RA, rc, hR, rfl, hoR, hb5⟩; have l5 := later hb5; have hsR : ∀ u [Later w5 u], SlAt IDE.cells 2 u RA R := fun u i => ((hoR.at_ IDE.enc).2.2).below i.below; have hRl : R.length ≤ 5000 := by (rw [hR.out]; exact roots_len hf))))
    go_wp2_with fail
    go_ret
    exact ⟨l, LA, LC, hide (.inr ⟨Hge.out, by rw [← ho.out, ← hR.out]; exact hl⟩), rfl, hol2.mono (show Below w.heap.size w _ from below_of).size, below_of⟩
  · go_wp2_with (go_at_call 15; refine (HG _).mono ?_; rintro r w1 ⟨o, GA, gc, ho, rfl, hog, hb1⟩; have l1 := later hb1)
    go_ret
    exact ⟨[], none, 0, hide (.inl ⟨by rw [Hge.out]; exact hg0, rfl⟩), rfl, Own.nil, below_of⟩
end Go.Proofs.YtpkfenlfgdbkcaaGreatDoor

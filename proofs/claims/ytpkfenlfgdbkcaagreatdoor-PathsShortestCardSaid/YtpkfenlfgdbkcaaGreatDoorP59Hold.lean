/-
  Contracts of the functions of this seat that each theorem names: what a call returns, and that it writes nothing that was there before. The conditions stand in each theorem.
-/
import Derived.Test.YtpkfenlfgdbkcaaGreatDoorP59Path
set_option linter.unusedSimpArgs false
set_option linter.unusedVariables false
namespace Go.Proofs.YtpkfenlfgdbkcaaGreatDoor
open Go.RowKit
attribute [local go_sem] Oper.semAt_some Instr.makeFunc
attribute [local simp] heap_drew
attribute [local go_sem ↓] run_eql_id run_neq_id
def holdsB (id : IDE) (n : NodeC) : Bool := decide (0 ≤ fieldN n id)
def holdersV (V : List ViewE) (id : IDE) : List StepE := if (graphV V).2 ≠ 0 then [] else ((graphV V).1.filter (holdsB id)).map fun n => stepV V (graphV V).1 n.id id
def HoldPost (V : List ViewE) (id : IDE) (w : World) (r : Ending) (w' : World) : Prop := ∃ q A c, Hid (q = holdersV V id) ∧ r = .returned (.slice A q.length c) ∧ Own StepE.cells 4 44 w.heap.size w' (.slice A q.length c) q ∧ Below w.heap.size w w'
set_option maxRecDepth 200000 in
set_option maxHeartbeats 8000000 in
theorem holders_any (A : Option Addr) (c : Nat) (V : List ViewE) (id : IDE) (w : World) (H : ViewsAt w A V) (hf : FewV V) :
    Calls Tryz.prog 14 #[.slice A V.length c, id.v] w (HoldPost V id w) := by
  have HV := H.later
  have HG : ∀ u [Later w u], Calls Tryz.prog 15 #[.slice A V.length c] u (GraphPost V u) := fun u i => graph_any A c V u (HV u) hf
  unfold GraphPost at HG
  obtain ⟨ge, hge⟩ : ∃ n, (graphV V).2 = n := ⟨_, rfl⟩
  rw [hge] at HG
  have Hge := hide hge
  clear hge
  go_enter Tryz.func14, Tryz.ntmps14
  go_upto_region 1 with fail
  refine wp_name ?_
  intro w0 hw0
  obtain ⟨B0, l0⟩ := box1 hw0
  have lw0 : Later w w0 := l0 w
  have l00 : Later w0 w0 := Later.refl
  clear hw0
  by_cases hg0 : ge = 0
  · subst hg0
    go_upto_region 4 with (go_at_call 15; refine (HG _).mono ?_; rintro r w1 ⟨o, GA, gc, ho, rfl, hog, hb1⟩; have l1 := later hb1)
    refine wp_name ?_
    intro w2 hw2
    have b6 : w2.heap[w1.heap.size]? = some (.cells #[.slice GA o.length gc] 36 (0, 0)) := (by rw [← hw2]; simp only [heap_alloc_if, World.size_alloc]; repeat (first | rw [if_pos trivial] | rw [if_neg (by omega)] | rw [if_pos (by omega)]); try rfl)
    have hb12 : Below w1.heap.size w1 w2 := by rw [← hw2]; exact (by repeat (first | with_reducible exact Below.refl _ _ | (with_reducible refine Below.drew ?_) | (with_reducible refine below_drewN ?_ _) | (with_reducible refine Below.alloc ?_ ?_ _; rotate_left; (first | omega | (simp <;> omega))) | (with_reducible refine Below.setCell ?_ ?_ _; rotate_left; (first | omega | (simp <;> omega)))))
    clear hw2
    have l02 : Later w0 w2 := ⟨(show Below w0.heap.size w0 w1 from below_of).trans (hb12.mono (show Below w0.heap.size w0 w1 from below_of).size)⟩
    have lw2 : Later w w2 := lw0.trans l02
    have B6 := boxed b6
    have l22 : Later w2 w2 := Later.refl
    have hN := hog.nodes.below hb12
    have hoc : (conL o).length = o.length := by unfold conL; rw [List.length_map]
    have hol : o.length ≤ 1000 := by rw [← hoc, ho.out]; exact graph_len hf
    have hofl : ∀ n ∈ o, n.fields.length ≤ 1000 := fun n hn => by
      have : n.con.fields.length ≤ 30 := graph_fields (V := V) (by rw [← ho.out]; exact List.mem_map.2 ⟨n, hn, rfl⟩)
      show n.con.fields.length ≤ 1000
      omega
    have hH2 := hide (HV w2)
    clear hoc hb12 b6 HG hog
    go_wp2_with fail
    go_loopw [7, 20] (fun ov iv wr => ∃ (k : Nat) (q : List StepE) (QA : Option Addr) (QC : Nat), k ≤ o.length ∧ iv = .int .i64 k ∧ ov = .slice QA q.length QC ∧ Hid (q = ((conL (o.take k)).filter (holdsB id)).map fun n => stepV V (conL o) n.id id) ∧ Hid (q.length ≤ k) ∧ Own StepE.cells 4 44 w2.heap.size wr (.slice QA q.length QC) q ∧ Below w2.heap.size w2 wr) (fun _ iv _ => o.length - (intOf iv).toNat)
    case atStart => exact ⟨0, [], none, 0, by omega, rfl, rfl, hide (by simp [conL]), hide (Nat.le_refl _), Own.nil, Below.refl _ _⟩
    case round =>
      obtain ⟨k, q, QA, QC, hk, rfl, rfl, hq, hqn, hown, hbr⟩ := hrel
      have lr := later hbr
      have l2r : Later w2 wr := ⟨hbr⟩
      have lrr : Later wr wr := Later.refl
      have hzr := hbr.size
      by_cases hlt : k < o.length
      · obtain ⟨gx, ox, n, rfl, hn, NC, NF, -⟩ := (hN.later wr).get hlt
        have hki : (k : Int) < (o.length : Int) := by omega
        have hT := hide (take_snoc_get hn)
        have hnl := hofl n (List.mem_of_getElem? hn)
        clear hn
        go_upto_region 8 with fail
        refine wp_name ?_
        intro W8 hW8
        have b9 : W8.heap[wr.heap.size]? = some (.cells #[.int .i64 n.iDMachine, .int .i64 n.iDSerial, .int .i64 n.kind, .int .i64 n.clas, .slice n.A n.fields.length n.c] 41 (0, 0)) := (by rw [← hW8]; simp only [heap_alloc_if, World.size_alloc]; repeat (first | rw [if_pos trivial] | rw [if_neg (by omega)] | rw [if_pos (by omega)]); try rfl)
        have hb8 : Below wr.heap.size wr W8 := by rw [← hW8]; exact (by repeat (first | with_reducible exact Below.refl _ _ | (with_reducible refine Below.drew ?_) | (with_reducible refine below_drewN ?_ _) | (with_reducible refine Below.alloc ?_ ?_ _; rotate_left; (first | omega | (simp <;> omega))) | (with_reducible refine Below.setCell ?_ ?_ _; rotate_left; (first | omega | (simp <;> omega)))))
        clear hW8
        have B9 := boxed b9
        have l88 : Later W8 W8 := Later.refl
        have lr8 : Later wr W8 := ⟨hb8⟩
        have l28 : Later w2 W8 := l2r.trans lr8
        have l08 : Later w0 W8 := l02.trans l28
        have own8 := hown.below hb8
        have hz8 : w2.heap.size ≤ W8.heap.size := l28.below.size
        have hql : q.length ≤ 1000 := by have := hqn.out; omega
        have HFd : ∀ u [Later W8 u], Calls Tryz.prog 33 #[n.v, id.v] u fun r w' => r = .returned (.int .i64 (fieldN n.con id)) ∧ Below u.heap.size u w' := fun u i => by
          haveI := lr8.trans i
          exact field_any n id u (NF u) (by omega)
        have hst : ∀ u [Later W8 u], Calls Tryz.prog 27 #[.slice A V.length c, .agg #[.slice (some ⟨gx, ox, none⟩) o.length gc], n.con.id.v, id.v] u fun r w' => r = .returned (stepV V (conL o) n.con.id id).v ∧ Below u.heap.size u w' := fun u i => by
          haveI := l28.trans i
          exact step_any A c V (some ⟨gx, ox, none⟩) gc o n.con.id id u (hH2.out.later u) hf (hN.later u) hol hofl
        obtain ⟨val, hval⟩ : ∃ z, stepV V (conL o) n.con.id id = z := ⟨_, rfl⟩
        rw [hval] at hst
        obtain ⟨fd, hfd⟩ : ∃ z, fieldN n.con id = z := ⟨_, rfl⟩
        rw [hfd] at HFd
        have hcon : conL (o.take (k + 1)) = conL (o.take k) ++ [n.con] := by rw [hT.out]; unfold conL; rw [List.map_append]; rfl
        have hB : holdsB id n.con = decide (0 ≤ fd) := by unfold holdsB; rw [hfd]
        by_cases hfd0 : 0 ≤ fd
        · have hq' := hide (show q ++ [val] = ((conL (o.take (k + 1))).filter (holdsB id)).map fun n => stepV V (conL o) n.id id by
            rw [hcon, List.filter_append, List.map_append, ← hq.out, List.filter_cons, hB, decide_eq_true hfd0]
            simp [hval])
          clear hcon hB hval hfd
          go_wp2_with (first
            | (go_at_call 33; refine (HFd _).mono ?_; rintro r w5 ⟨rfl, hb5⟩; have l5 := later hb5)
            | (go_at_call 27; refine (hst _).mono ?_; rintro r w9 ⟨rfl, hb9⟩; have l9 := later hb9)
            | (at_builtin; refine wpList_app1 rfl (.tmp 28) (.tmp 35) rfl StepE.enc stepT val rfl rfl rfl (own8.later _) (by rfl) (by omega) (by unfold maxLen; omega) (Nat.le_trans hz8 (show Below W8.heap.size W8 _ from below_of).size) ?_; intro A' c' w10 ho10 hm hb hg hat; have hb610 : Below w2.heap.size w2 w10 := (show Below w2.heap.size w2 w9 from below_of).trans hb))
          go_roundw
          case rel => exact ⟨k + 1, q ++ [val], A', c', by omega, by go_num, by rw [List.length_append]; rfl, hq', hide (by rw [List.length_append, List.length_singleton]; have := hqn.out; omega), by rw [List.length_append]; exact ho10, hb610⟩
          case measure => simp [intOf]; omega
        · have hq' := hide (show q = ((conL (o.take (k + 1))).filter (holdsB id)).map fun n => stepV V (conL o) n.id id by
            rw [hcon, List.filter_append, List.map_append, ← hq.out, List.filter_cons, hB, decide_eq_false hfd0]
            simp)
          clear hcon hB hval hfd
          go_wp2_with (go_at_call 33; refine (HFd _).mono ?_; rintro r w5 ⟨rfl, hb5⟩; have l5 := later hb5)
          go_roundw
          case rel => exact ⟨k + 1, q, QA, QC, by omega, by go_num, rfl, hq', hide (by have := hqn.out; omega), own8.later _, below_of⟩
          case measure => simp [intOf]; omega
      · have hk' : k = o.length := by omega
        subst hk'
        rw [List.take_length] at hq
        have hp := hide (show q = holdersV V id by unfold holdersV; rw [Hge.out, if_neg (by simp), hq.out, ho.out])
        go_wp2_with fail
        go_ret
        exact ⟨q, QA, QC, hp, rfl, hown.mono lw2.below.size, lw2.below.trans (hbr.mono lw2.below.size)⟩
  · have hp := hide (show holdersV V id = [] by unfold holdersV; rw [Hge.out, if_pos hg0])
    go_wp2_with (go_at_call 15; refine (HG _).mono ?_; rintro r w1 ⟨o, GA, gc, ho, rfl, hog, hb1⟩; have l1 := later hb1)
    go_ret
    exact ⟨[], none, 0, hide hp.out.symm, rfl, Own.nil, below_of⟩
end Go.Proofs.YtpkfenlfgdbkcaaGreatDoor

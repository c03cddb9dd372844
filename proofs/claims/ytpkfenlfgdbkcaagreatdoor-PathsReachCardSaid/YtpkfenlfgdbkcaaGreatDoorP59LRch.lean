/-
  Contracts of the functions of this seat that each theorem names: what a call returns, and that it writes nothing that was there before. The conditions stand in each theorem.
-/
import Derived.Test.YtpkfenlfgdbkcaaGreatDoorP59NearPlain
import Derived.Test.YtpkfenlfgdbkcaaGreatDoorP59Rch
import Derived.Test.YtpkfenlfgdbkcaaGreatDoorP59Open
import Derived.Test.YtpkfenlfgdbkcaaGreatDoorP59Few
import Derived.Deep.RegionHeld3
set_option linter.unusedSimpArgs false
set_option linter.unusedVariables false
namespace Go.Proofs.YtpkfenlfgdbkcaaGreatDoor
open Go.RowKit
attribute [local go_sem] Oper.semAt_some Instr.makeFunc
attribute [local simp] heap_drew
attribute [local go_sem ↓] load_view_pre load_flight_pre load_msg_pre store_view_pre store_flight_pre store_msg_pre load_scion_pre store_scion_pre
attribute [local go_sem] load_view load_flight load_msg store_view store_flight store_msg load_scion store_scion view_isRow zero_isRow scion_isRow zeroS_isRow rowFree_new setRow_new view_arr0 view_arr2 view_arr3 view_arr4 view_arr5 view_arr6 view_arr9 view_arr10 flight_arr0 flight_arr1 flight_arr2 flight_arr3 flight_arr6 flight_arr7 flight_arr8 flight_arr9 flight_arr10 flight_arr11 flight_arr12 flight_arr13 flight_arr17 flight_arr18 flight_arr19 flight_arr20 flight_arr21 flight_arr22 flight_arr23 flight_arr24 flight_arr25 msg_arr0 msg_arr1 msg_arr4 msg_arr5 msg_arr6 msg_arr7 msg_arr8 msg_arr9 msg_arr10 msg_arr11 msg_arr15 msg_arr16 msg_arr17 msg_arr18 msg_arr19 msg_arr20 msg_arr21 msg_arr22 msg_arr23
attribute [local go_sem ↓] run_eql_id run_neq_id
/-- A node that is not reached has no path. -/
theorem unreached_law {V : List ViewE} {n : NodeC} (hg : (graphV V).2 = 0) (hn : n ∈ (graphV V).1) {q : List IDE} (hq : ReachL (graphV V).1 (rootsV V) q) (h : n.id ∉ q) : pathV V n.id = ([], 9) := by
  have hp : pathsT (graphV V).1 (rootsV V) n.id = none := by
    cases hp : pathsT (graphV V).1 (rootsV V) n.id with
    | none => rfl
    | some l => exact absurd ((hq.2 _).2 (path_reach.1 (by rw [hp]; rfl))) h
  unfold pathV
  rw [if_neg (fun e => e hg), if_neg (by rw [graph_first hn]; simp), if_pos (by unfold searchL; rw [hp]; rfl)]
theorem reached_law {V : List ViewE} {n : NodeC} (hg : (graphV V).2 = 0) (hn : n ∈ (graphV V).1) {q : List IDE} (hq : ReachL (graphV V).1 (rootsV V) q) (h : n.id ∈ q) : (pathV V n.id).2 = 0 := by
  obtain ⟨l, hl⟩ := Option.isSome_iff_exists.1 (path_reach.2 ((hq.2 _).1 h))
  rw [(pathV_some hg hl).1]
theorem reachL_len {V : List ViewE} (hf : FewV V) {q : List IDE} (hq : ReachL (graphV V).1 (rootsV V) q) : q.length ≤ 1000 := by
  have h1 : ∀ x ∈ q, x ∈ ids (graphV V).1 := fun x hx => by
    obtain ⟨l, hl⟩ := Option.isSome_iff_exists.1 (path_reach.2 ((hq.2 x).1 hx))
    obtain ⟨p, -, hp2, -⟩ := bfs_path (graphV V).1 (rootsV V) (graphV V).1.length x l hl
    obtain ⟨n, hn⟩ := Option.isSome_iff_exists.1 hp2
    obtain ⟨h3, h4⟩ := firstN_some hn
    exact List.mem_map.2 ⟨n, h3, h4⟩
  have h2 : q.Nodup := hq.1.nodup
  exact Nat.le_trans (reach_len h2 h1) (graph_len hf)
theorem format_len {V : List ViewE} {P : List StepE} (h : checkB V P = true) : (formatV V P).length = P.length := by
  unfold formatV; rw [if_pos h, List.length_map, List.length_zipIdx]
set_option maxRecDepth 200000 in
set_option maxHeartbeats 8000000 in
theorem lawReach_any (A : Option Addr) (c : Nat) (V : List ViewE) (w : World) (hT : Tab10 w) (H : ViewsIn w A V) : Calls Tryz.prog 8 #[.slice A V.length c] w fun r w' => r = .returned (.bool true) ∧ Below w.heap.size w w' := by
  have HT := hT.later
  have HV := H.at_.later
  have HA : ∀ u [Later w u], Calls Tryz.prog 9 #[] u fun r w' => r = .returned (.bool true) ∧ Below u.heap.size u w' := fun u i => awake_any u (HT u)
  have HFw : ∀ u [Later w u], Calls Tryz.prog 10 #[.slice A V.length c] u (FewPost V u) := fun u i => few55_any A c V u (HV u) H.len
  unfold FewPost at HFw
  have lww : Later w w := Later.refl
  go_enter Tryz.func8, Tryz.ntmps8
  go_upto_region 5 with (first
    | (go_at_call 9; refine (HA _).mono ?_; rintro r w1 ⟨rfl, hb1⟩; have l1 := later hb1)
    | (go_at_call 10; refine (HFw _).mono ?_; rintro r w2 ⟨b, rfl, hfw, hb2⟩; have l2 := later hb2))
  · go_ret
    exact ⟨rfl, below_of⟩
  cases b
  · exfalso; first | exact absurd ‹(!false) = false› (by decide) | exact ‹¬ (!false) = true› rfl
  have hf : FewV V := hfw rfl
  clear hfw HFw HA
  simp only [Bool.not_true]
  have lwb : Later w w2 := ⟨below_of⟩
  have l22 : Later w2 w2 := Later.refl
  have HG : ∀ u [Later w u], Calls Tryz.prog 15 #[.slice A V.length c] u (GraphPost V u) := fun u i => graph_any A c V u (HV u) hf
  have HP : ∀ (x : IDE) (u : World) [Later w u], Calls Tryz.prog 11 #[.slice A V.length c, x.v] u (PathPost V x u) := fun x u i => path_any A c V x u (HV u) hf
  have HR : ∀ u [Later w u], Calls Tryz.prog 23 #[.slice A V.length c] u (RchPost V u) := fun u i => reachable_any A c V u (HV u) hf
  unfold GraphPost at HG
  unfold PathPost at HP
  unfold RchPost at HR
  obtain ⟨ge, hge⟩ : ∃ n, (graphV V).2 = n := ⟨_, rfl⟩
  rw [hge] at HG
  have Hge := hide hge
  clear hge
  go_upto_region 6 with (go_at_call 15; refine (HG _).mono ?_; rintro r w3 ⟨o, GA, gc, ho, rfl, hog, hb3⟩; have l3 := later hb3)
  refine wp_name ?_
  intro w4 hw4
  have b5 : w4.heap[w3.heap.size]? = some (.cells #[.slice GA o.length gc] 36 (0, 0)) := (by rw [← hw4]; simp only [heap_alloc_if, World.size_alloc]; repeat (first | rw [if_pos trivial] | rw [if_neg (by omega)] | rw [if_pos (by omega)]); try rfl)
  have hb34 : Below w3.heap.size w3 w4 := by rw [← hw4]; exact (by repeat (first | with_reducible exact Below.refl _ _ | (with_reducible refine Below.drew ?_) | (with_reducible refine below_drewN ?_ _) | (with_reducible refine Below.alloc ?_ ?_ _; rotate_left; (first | omega | (simp <;> omega))) | (with_reducible refine Below.setCell ?_ ?_ _; rotate_left; (first | omega | (simp <;> omega)))))
  clear hw4
  have lb3 : Later w2 w3 := ⟨below_of⟩
  have lb4 : Later w2 w4 := ⟨lb3.below.trans (hb34.mono lb3.below.size)⟩
  have lw4 : Later w w4 := lwb.trans lb4
  have B5 := boxed b5
  have l44 : Later w4 w4 := Later.refl
  have hN := (hog.nodes.below hb34).later
  have hoc : (conL o).length = o.length := by unfold conL; rw [List.length_map]
  have hol : o.length ≤ 1000 := by rw [← hoc, ho.out]; exact graph_len hf
  clear b5 hog HG hoc
  by_cases hg0 : ge = 0
  rotate_left
  · have hgi : ((ge : Int) != 0) = true := by rw [bne_iff_ne]; omega
    have HP1 : ∀ u [Later w u], Calls Tryz.prog 11 #[.slice A V.length c, .agg #[.int .i64 1, .int .i64 1]] u fun r w' => ∃ QA QC, r = .returned (.tuple #[.slice QA 0 QC, .int .i64 (ge : Nat)]) ∧ Below u.heap.size u w' := fun u i => by
      refine (HP ⟨1, 1⟩ u).mono ?_
      rintro r w' ⟨q, QA, QC, hq, h2, h3, h4⟩
      have hp : pathV V ⟨1, 1⟩ = ([], ge) := by unfold pathV; rw [Hge.out, if_pos hg0]
      have h1 := hq.out
      rw [hp] at h1 h2
      subst h1
      exact ⟨QA, QC, h2, h4⟩
    go_wp2_with (go_at_call 11; refine (HP1 _).mono ?_; rintro r w5 ⟨QA, QC, rfl, hb5⟩; have l5 := later hb5)
    go_ret
    exact ⟨ret_bool (by simp), below_of⟩
  have hgi : ((ge : Int) != 0) = false := by rw [hg0]; rfl
  have hg : (graphV V).2 = 0 := by rw [Hge.out, hg0]
  go_upto_region 10 with (go_at_call 23; refine (HR _).mono ?_; rintro r w5 ⟨rl, RA, RC, hrl, rfl, horl, hb5⟩; have l5 := later hb5)
  have l45 : Later w4 w5 := ⟨below_of⟩
  have lw5 : Later w w5 := lw4.trans l45
  have l55 : Later w5 w5 := Later.refl
  obtain ⟨-, -, hrs⟩ := horl.at_ IDE.enc
  have HRs := hrs.later
  have hrl2 := hide (show ReachL (graphV V).1 (rootsV V) rl by
    rcases hrl.out with ⟨h, -⟩ | ⟨-, h⟩
    · exact absurd hg h
    · exact h)
  have hrll : rl.length ≤ 1000000 := Nat.le_trans (reachL_len hf hrl2.out) (by omega)
  have B55 : Boxed w5 w3.heap.size #[.slice GA o.length gc] 36 := fun u i => by haveI := l45.trans i; exact B5 u
  have hN5 := hN w5
  clear hrs horl hrl HR B5 hN
  go_wp2_with fail
  go_loopw [38] (fun iv wr => ∃ k : Nat, k ≤ o.length ∧ iv = .int .i64 k ∧ Below w5.heap.size w5 wr) (fun iv _ => o.length - (intOf iv).toNat)
  case atStart => exact ⟨0, by omega, rfl, Below.refl _ _⟩
  case round =>
    obtain ⟨k, hk, rfl, hbr⟩ := hrel
    have lr := later hbr
    have l5r : Later w5 wr := ⟨hbr⟩
    have lwr : Later w wr := lw5.trans l5r
    have lrr : Later wr wr := Later.refl
    by_cases hlt : k < o.length
    · obtain ⟨gx, ox, n, rfl, hn, NC, NF, -⟩ := (hN5.later wr).get hlt
      have hki : (k : Int) < (o.length : Int) := by omega
      have hmem : n.con ∈ (graphV V).1 := by rw [← ho.out]; exact List.mem_map.2 ⟨n, List.mem_of_getElem? hn, rfl⟩
      have HPn : ∀ u [Later wr u], Calls Tryz.prog 11 #[.slice A V.length c, .agg #[.int .i64 n.iDMachine, .int .i64 n.iDSerial]] u (PathPost V n.con.id u) := fun u i => by
        haveI := lwr.trans i
        exact HP n.con.id u
      unfold PathPost at HPn
      obtain ⟨pe, hpe⟩ : ∃ z, (pathV V n.con.id).2 = z := ⟨_, rfl⟩
      rw [hpe] at HPn
      have Hpe := hide hpe
      have HHas : ∀ u [Later w5 u], Calls Tryz.prog 19 #[.slice RA rl.length RC, .agg #[.int .i64 n.iDMachine, .int .i64 n.iDSerial]] u fun r w' => r = .returned (.bool (decide (n.con.id ∈ rl))) ∧ Below u.heap.size u w' := fun u i => has21_any RA RC rl n.con.id u (HRs u) (by omega)
      obtain ⟨hb, hhb⟩ : ∃ b, decide (n.con.id ∈ rl) = b := ⟨_, rfl⟩
      rw [hhb] at HHas
      have Hhb := hide hhb
      clear hpe hhb hn
      go_upto_region 13 with fail
      refine wp_name ?_
      intro w6 hw6
      have b9 : w6.heap[wr.heap.size]? = some (.cells #[.int .i64 n.iDMachine, .int .i64 n.iDSerial, .int .i64 n.kind, .int .i64 n.clas, .slice n.A n.fields.length n.c] 41 (0, 0)) := (by rw [← hw6]; simp only [heap_alloc_if, World.size_alloc]; repeat (first | rw [if_pos trivial] | rw [if_neg (by omega)] | rw [if_pos (by omega)]); try rfl)
      have hbr6 : Below wr.heap.size wr w6 := by rw [← hw6]; exact (by repeat (first | with_reducible exact Below.refl _ _ | (with_reducible refine Below.drew ?_) | (with_reducible refine below_drewN ?_ _) | (with_reducible refine Below.alloc ?_ ?_ _; rotate_left; (first | omega | (simp <;> omega))) | (with_reducible refine Below.setCell ?_ ?_ _; rotate_left; (first | omega | (simp <;> omega)))))
      clear hw6
      have lr6 : Later wr w6 := ⟨hbr6⟩
      have B9 := boxed b9
      have l66 : Later w6 w6 := Later.refl
      go_upto_region 14 with (go_at_call 11; refine (HPn _).mono ?_; rintro r w7 ⟨q, QA, QC, hq, rfl, hoq, hb7⟩; have l7 := later hb7)
      have l67 : Later w6 w7 := ⟨below_of⟩
      have lr7 : Later wr w7 := lr6.trans l67
      have l57 : Later w5 w7 := l5r.trans lr7
      have lw7 : Later w w7 := lw5.trans l57
      have l77 : Later w7 w7 := Later.refl
      obtain ⟨-, -, hqs⟩ := hoq.at_ StepE.enc
      have HQ := hqs.later
      have hql : q.length ≤ 1000 := by rw [hq.out]; exact path_short hf
      clear hqs hoq HPn b9 NC NF B55
      have B97 : Boxed w7 wr.heap.size #[.int .i64 n.iDMachine, .int .i64 n.iDSerial, .int .i64 n.kind, .int .i64 n.clas, .slice n.A n.fields.length n.c] 41 := fun u i => by haveI := l67.trans i; exact B9 u
      clear B9
      cases hb
      · have hu := unreached_law hg hmem hrl2.out (of_decide_eq_false Hhb.out)
        have hp9 : pe = 9 := by rw [← Hpe.out, hu]
        have hq0 : q.length = 0 := by rw [hq.out, hu]; rfl
        have c1 : ((pe : Int) != 9) = false := by rw [hp9]; rfl
        have c2 : ((q.length : Int) != 0) = false := by rw [hq0]; rfl
        clear hp9 hq0
        go_wp2_with (go_at_call 19; refine (HHas _).mono ?_; rintro r w8 ⟨rfl, hb8⟩; have l8 := later hb8)
        go_roundw
        case rel => exact ⟨k + 1, by omega, by go_num, below_of⟩
        case measure => simp [intOf]; omega
      · have hu := reached_law hg hmem hrl2.out (of_decide_eq_true Hhb.out)
        have hpos : 0 < q.length := by rw [hq.out]; exact path_pos hu
        have hchk := check_law hu
        rw [← hq.out] at hchk
        obtain ⟨z, hz⟩ : ∃ z, q.length = z + 1 := ⟨q.length - 1, by omega⟩
        obtain ⟨x, hx1, hx2⟩ := path_last (V := V) (id := n.con.id) (n := z) (by rw [← hq.out]; exact hz)
        rw [← hq.out] at hx1
        have Hx1 := hide hx1
        have Hz := hide hz
        clear hx1 hz
        have hp0 : pe = 0 := by rw [← Hpe.out, hu]
        have HC : ∀ u [Later w7 u], Calls Tryz.prog 21 #[.slice A V.length c, .slice QA q.length QC] u fun r w' => r = .returned (.bool true) ∧ Below u.heap.size u w' := fun u i => by
          haveI := lw7.trans i
          have := check_any A c V QA QC q u (HV u) hf (HQ u) hql
          unfold ChkPost at this
          rw [hchk] at this
          exact this
        have HFt : ∀ u [Later w7 u], Calls Tryz.prog 22 #[.slice A V.length c, .slice QA q.length QC] u fun r w' => ∃ FA FC, r = .returned (.slice FA q.length FC) ∧ Below u.heap.size u w' := fun u i => by
          haveI := lw7.trans i
          refine (format_any A c V QA QC q u (HV u) hf (HQ u) hql (HT u) H.ok).mono ?_
          rintro r w' ⟨fl, FA, FC, h1, h2, -, h4⟩
          rw [h1.out, format_len hchk] at h2
          exact ⟨FA, FC, h2, h4⟩
        go_upto_region 17 with (go_at_call 19; refine (HHas _).mono ?_; rintro r w8 ⟨rfl, hb8⟩; have l8 := later hb8)
        have l7 : Later w7 w8 := ⟨below_of⟩
        have lw8 : Later w w8 := lw7.trans l7
        have l88 : Later w8 w8 := Later.refl
        obtain ⟨gq, oq, x', hA, hx', C2⟩ := StepE.get (HQ w8) (show z < q.length by rw [Hz.out]; omega)
        subst hA
        have hxx : x' = x := by rw [Hx1.out] at hx'; injection hx' with hx'; exact hx'.symm
        subst hxx
        have HC8 : ∀ u [Later w8 u], Calls Tryz.prog 21 #[.slice A V.length c, .slice (some ⟨gq, oq, none⟩) q.length QC] u fun r w' => r = .returned (.bool true) ∧ Below u.heap.size u w' := fun u i => by haveI := l7.trans i; exact HC u
        have HF8 : ∀ u [Later w8 u], Calls Tryz.prog 22 #[.slice A V.length c, .slice (some ⟨gq, oq, none⟩) q.length QC] u fun r w' => ∃ FA FC, r = .returned (.slice FA q.length FC) ∧ Below u.heap.size u w' := fun u i => by haveI := l7.trans i; exact HFt u
        have B98 : Boxed w8 wr.heap.size #[.int .i64 n.iDMachine, .int .i64 n.iDSerial, .int .i64 n.kind, .int .i64 n.clas, .slice n.A n.fields.length n.c] 41 := fun u i => by haveI := l7.trans i; exact B97 u
        have c0 : ((pe : Int) != 0) = false := by rw [hp0]; rfl
        have c1 : ((q.length : Int) == 0) = false := by rw [beq_eq_false_iff_ne]; omega
        have d2 : ((q.length : Int) - 1) = (z : Int) := by rw [Hz.out]; omega
        have d3 : IntKind.i64.wrap (z : Int) = (z : Int) := by have := Hz.out; rw [IntKind.wrap_i64]; omega
        have d4 : (z : Int) < (q.length : Int) := by rw [Hz.out]; omega
        have d5 : (0 : Int) ≤ (z : Int) := by omega
        have d6 : z < q.length := by rw [Hz.out]; omega
        have hq1 : ideq x'.iDMachine x'.iDSerial n.iDMachine n.iDSerial = true := by
          rw [show ideq x'.iDMachine x'.iDSerial n.iDMachine n.iDSerial = decide (x'.id = n.con.id) from @ideq_iff x'.id n.con.id]
          exact decide_eq_true hx2
        have l58 : Later w5 w8 := l57.trans l7
        clear HC HFt HQ B97 hx2 hp0 hx' hpos
        go_region_held3 (fun w' => ∀ b [Later b w8], Later b w') ((intro b _; infer_instance))
          ((first
            | (go_at_call 21; refine (HC8 _).mono ?_; rintro r w9 ⟨rfl, hb9⟩; have l9 := later hb9)
            | (go_at_call 22; refine (HF8 _).mono ?_; rintro r w10 ⟨FA, FC, rfl, hb10⟩; have l10 := later hb10)))
        all_goals go_wp2_with fail
        go_roundw
        case rel => exact ⟨k + 1, by omega, by go_num, below_of⟩
        case measure => simp [intOf]; omega
    · have hk' : k = o.length := by omega
      subst hk'
      go_wp2_with fail
      go_ret
      exact ⟨rfl, below_of⟩
end Go.Proofs.YtpkfenlfgdbkcaaGreatDoor

/-
  Contracts of the functions of this seat that each theorem names: what a call returns, and that it writes nothing that was there before. The conditions stand in each theorem.
-/
import Derived.Test.YtpkfenlfgdbkcaaGreatDoorP59Hold
set_option linter.unusedSimpArgs false
set_option linter.unusedVariables false
namespace Go.Proofs.YtpkfenlfgdbkcaaGreatDoor
open Go.RowKit
attribute [local go_sem] Oper.semAt_some Instr.makeFunc
attribute [local simp] heap_drew
attribute [local go_sem ↓] run_eql_id run_neq_id run_neq_ValE run_eql_ValE
def StepE.id (s : StepE) : IDE := ⟨s.iDMachine, s.iDSerial⟩
/-- A step's node is there, and its machine is its home. -/
def headB (V : List ViewE) (G : List NodeC) (s : StepE) : Bool := (firstN G s.id).isSome && decide ((homeV V s.id).1 = s.machine)
/-- A step leads to an identity. -/
def linkB (G : List NodeC) (s : StepE) (y : IDE) : Bool :=
  let n := (firstN G s.id).getD zeroC
  !decide (n.kind = 2) && decide (0 ≤ s.field ∧ s.field < (n.fields.length : Int)) && decide (n.fields[s.field.toNat]? = some (refV y))
def chainB (V : List ViewE) (G : List NodeC) : List StepE → Bool
  | [] => false
  | s :: l => headB V G s && (match l with | [] => decide (s.field = -1) | t :: _ => linkB G s t.id && chainB V G l)
def checkB (V : List ViewE) (P : List StepE) : Bool := decide ((graphV V).2 = 0) && (match P with | [] => false | s :: _ => decide (s.id ∈ rootsV V)) && chainB V (graphV V).1 P
def ChkPost (V : List ViewE) (P : List StepE) (w : World) (r : Ending) (w' : World) : Prop := r = .returned (.bool (checkB V P)) ∧ Below w.heap.size w w'
set_option maxRecDepth 200000 in
set_option maxHeartbeats 8000000 in
theorem check_any (A : Option Addr) (c : Nat) (V : List ViewE) (PA : Option Addr) (pc : Nat) (P : List StepE) (w : World) (H : ViewsAt w A V) (hf : FewV V) (hP : SlAt StepE.cells 4 w PA P) (hl : P.length ≤ 1000) :
    Calls Tryz.prog 21 #[.slice A V.length c, .slice PA P.length pc] w (ChkPost V P w) := by
  have HV := H.later
  have HPs : ∀ u [Later w u], SlAt StepE.cells 4 u PA P := fun u i => hP.below i.below
  have HG : ∀ u [Later w u], Calls Tryz.prog 15 #[.slice A V.length c] u (GraphPost V u) := fun u i => graph_any A c V u (HV u) hf
  have HRt : ∀ u [Later w u], Calls Tryz.prog 20 #[.slice A V.length c] u (RootsPost V u) := fun u i => roots_any A c V u (HV u) hf
  unfold GraphPost at HG
  obtain ⟨ge, hge⟩ : ∃ n, (graphV V).2 = n := ⟨_, rfl⟩
  rw [hge] at HG
  have Hge := hide hge
  clear hge
  have lww : Later w w := Later.refl
  go_enter Tryz.func21, Tryz.ntmps21
  go_upto_region 2 with (go_at_call 15; refine (HG _).mono ?_; rintro r w1 ⟨o, GA, gc, ho, rfl, hog, hb1⟩; have l1 := later hb1)
  refine wp_name ?_
  intro w2 hw2
  have b6 : w2.heap[w1.heap.size]? = some (.cells #[.slice GA o.length gc] 36 (0, 0)) := (by rw [← hw2]; simp only [heap_alloc_if, World.size_alloc]; repeat (first | rw [if_pos trivial] | rw [if_neg (by omega)] | rw [if_pos (by omega)]); try rfl)
  have hb12 : Below w1.heap.size w1 w2 := by rw [← hw2]; exact (by repeat (first | with_reducible exact Below.refl _ _ | (with_reducible refine Below.drew ?_) | (with_reducible refine below_drewN ?_ _) | (with_reducible refine Below.alloc ?_ ?_ _; rotate_left; (first | omega | (simp <;> omega))) | (with_reducible refine Below.setCell ?_ ?_ _; rotate_left; (first | omega | (simp <;> omega)))))
  clear hw2
  have lw2 : Later w w2 := ⟨hb1.trans (hb12.mono hb1.size)⟩
  have B6 := boxed b6
  have l22 : Later w2 w2 := Later.refl
  have hN := hog.nodes.below hb12
  by_cases hg0 : ge = 0
  rotate_left
  · have hgi : ((ge : Int) != 0) = true := by rw [bne_iff_ne]; omega
    have hp := hide (show checkB V P = false by unfold checkB; rw [Hge.out, decide_eq_false hg0]; rfl)
    (refine wp_region_after (by kernel_rfl) (by kernel_rfl) ?_
     repeat (any_goals (first | go_big_quiet_skip | (go_big_quiet_want; go_big_quiet_op; first | go_big_quiet_on | go_big_quiet_call (fail)) | quiet_step (fail) | (refine wpQuiet_step (fun K hK => ?_); go_simp; split <;> (refine hK _ ?_; clear hK K))))
     all_goals (refine wpQuiet_nil ?_; intro _ hw'; obtain ⟨u', hw''⟩ := hw'; subst hw''; obtain ⟨wd, hbd⟩ := u'; simp only [After.val_mk]))
    go_wp2_with fail
    go_ret
    have ld := later hbd
    exact ⟨ret_bool hp.out.symm, below_of⟩
  have hgi : ((ge : Int) != 0) = false := by rw [hg0]; rfl
  by_cases hP0 : P.length = 0
  · have hpi : ((P.length : Int) == 0) = true := by rw [hP0]; rfl
    have hp := hide (show checkB V P = false by unfold checkB; rw [List.eq_nil_iff_length_eq_zero.2 hP0]; simp)
    clear hP0
    (refine wp_region_after (by kernel_rfl) (by kernel_rfl) ?_
     repeat (any_goals (first | go_big_quiet_skip | (go_big_quiet_want; go_big_quiet_op; first | go_big_quiet_on | go_big_quiet_call (fail)) | quiet_step (fail) | (refine wpQuiet_step (fun K hK => ?_); go_simp; split <;> (refine hK _ ?_; clear hK K))))
     all_goals (refine wpQuiet_nil ?_; intro _ hw'; obtain ⟨u', hw''⟩ := hw'; subst hw''; obtain ⟨wd, hbd⟩ := u'; simp only [After.val_mk]))
    go_wp2_with fail
    go_ret
    have ld := later hbd
    exact ⟨ret_bool hp.out.symm, below_of⟩
  have hpi : ((P.length : Int) == 0) = false := by rw [beq_eq_false_iff_ne]; omega
  obtain ⟨gp, op, s0, hPA, hs0, C0⟩ := StepE.get (HPs w2) (show 0 < P.length by omega)
  subst hPA
  have hpl : (0 : Int) < (P.length : Int) := by omega
  have hpn : 0 < P.length := by omega
  have hpe : ¬ P = [] := fun e => by rw [e] at hpn; cases hpn
  have Hs0 := hide hs0
  clear hs0
  subst hg0
  go_region_held3 (fun w' => ∀ b [Later b w2], Later b w') ((intro b _; infer_instance))
    ((first
      | (go_at_call 46; refine (hasI_any RA rc R s0.id _ (hsR _) (by have := hRl; omega)).mono ?_; rintro r w6 ⟨rfl, hb6⟩; have l6 := later hb6)
      | (go_at_call 20; refine (HRt _).mono ?_; rintro r w5 ⟨R, RA, rc, hR, rfl, hoR, hb5⟩; have l5 := later hb5; have hsR : ∀ u [Later w5 u], SlAt IDE.cells 2 u RA R := fun u i => ((hoR.at_ IDE.enc).2.2).below i.below; have hRl : R.length ≤ 5000 := by (rw [hR.out]; exact roots_len hf))))
  have l26 : Later w2 w6 := ⟨below_of⟩
  have lw6 : Later w w6 := lw2.trans l26
  have l66 : Later w6 w6 := Later.refl
  have hP6 := hide (HPs w6)
  have hN6 := hide (hN.below l26.below)
  have hH6 := hide (HV w6)
  have B66 : Boxed w6 w1.heap.size #[.slice GA o.length gc] 36 := fun u i => by haveI := l26.trans i; exact B6 u
  have hoc : (conL o).length = o.length := by unfold conL; rw [List.length_map]
  have hol : o.length ≤ 1000 := by rw [← hoc, ho.out]; exact graph_len hf
  have hofl : ∀ n ∈ o, n.fields.length ≤ 1000 := fun n hn => by
    have : n.con.fields.length ≤ 30 := graph_fields (V := V) (by rw [← ho.out]; exact List.mem_map.2 ⟨n, hn, rfl⟩)
    show n.con.fields.length ≤ 1000
    omega
  obtain ⟨pin, hpin⟩ : ∃ b, decide (s0.id ∈ R) = b := ⟨_, rfl⟩
  have hchk := hide (show checkB V P = (pin && chainB V (conL o) P) by
    unfold checkB
    rw [Hge.out, ho.out]
    cases P with
    | nil => simp at hpn
    | cons a l =>
      have : a = s0 := by have := Hs0.out; simpa using this
      rw [this, ← hR.out]
      show ((true && decide (s0.id ∈ R)) && _) = _
      rw [hpin, Bool.true_and])
  simp only [hpin]
  clear hoc hpin hN HG HRt hog hb12 b6 hsR hRl C0 Hs0
  cases pin
  · go_wp2_with fail
    go_ret
    exact ⟨ret_bool (by rw [hchk.out]; rfl), lw6.below⟩
  simp only [Bool.not_true]
  go_wp2_with fail
  go_loopw [37] (fun iv wr => ∃ k : Nat, k ≤ P.length ∧ iv = .int .i64 k ∧ Hid (chainB V (conL o) P = chainB V (conL o) (P.drop k)) ∧ Below w6.heap.size w6 wr) (fun iv _ => P.length - (intOf iv).toNat)
  case atStart => exact ⟨0, by omega, rfl, hide rfl, Below.refl _ _⟩
  case round =>
    obtain ⟨k, hk, rfl, hch, hbr⟩ := hrel
    have lr := later hbr
    have l6r : Later w6 wr := ⟨hbr⟩
    have lrr : Later wr wr := Later.refl
    by_cases hlt : k < P.length
    · obtain ⟨gs, os, s, hPA2, hs, C1⟩ := StepE.get (hP6.out.below hbr) hlt
      injection hPA2 with hPA2
      injection hPA2 with hPA3 hPA4
      subst hPA3 hPA4
      have hki : (k : Int) < (P.length : Int) := by omega
      have hdk := hide (show P.drop k = s :: P.drop (k + 1) by rw [List.drop_eq_getElem_cons hlt]; congr 1; exact Option.some.inj ((List.getElem?_eq_getElem hlt).symm.trans hs))
      clear hs
      go_upto_region 7 with fail
      refine wp_name ?_
      intro w7 hw7
      have b8 : w7.heap[wr.heap.size]? = some (.cells #[.int .i64 s.machine, .int .i64 s.iDMachine, .int .i64 s.iDSerial, .int .i64 s.field] 44 (0, 0)) := (by rw [← hw7]; simp only [heap_alloc_if, World.size_alloc]; repeat (first | rw [if_pos trivial] | rw [if_neg (by omega)] | rw [if_pos (by omega)]); try rfl)
      have hb7 : Below wr.heap.size wr w7 := by rw [← hw7]; exact (by repeat (first | with_reducible exact Below.refl _ _ | (with_reducible refine Below.drew ?_) | (with_reducible refine below_drewN ?_ _) | (with_reducible refine Below.alloc ?_ ?_ _; rotate_left; (first | omega | (simp <;> omega))) | (with_reducible refine Below.setCell ?_ ?_ _; rotate_left; (first | omega | (simp <;> omega)))))
      clear hw7
      have B8 := boxed b8
      have lr7 : Later wr w7 := ⟨hb7⟩
      have l67 : Later w6 w7 := l6r.trans lr7
      have l77 : Later w7 w7 := Later.refl
      have HF : ∀ u [Later w7 u], Calls Tryz.prog 18 #[.agg #[.slice GA o.length gc], s.id.v] u (FindPost (conL o) s.id u) := fun u i => by
        haveI := l67.trans i
        exact find_any GA gc o s.id u (hN6.out.later u) (by omega) (fun n hn => by have := hofl n hn; omega)
      have HH : ∀ u [Later w7 u], Calls Tryz.prog 47 #[.slice A V.length c, s.id.v] u (HomePost V s.id u) := fun u i => by
        haveI := l67.trans i
        exact home_any A c V s.id u (hH6.out.later u) hf
      unfold FindPost at HF
      unfold HomePost at HH
      obtain ⟨fb, hfb⟩ : ∃ b, (firstN (conL o) s.id).isSome = b := ⟨_, rfl⟩
      obtain ⟨hm, hhm⟩ : ∃ n, (homeV V s.id).1 = n := ⟨_, rfl⟩
      obtain ⟨hb, hhb⟩ : ∃ n, (homeV V s.id).2 = n := ⟨_, rfl⟩
      rw [hfb] at HF
      rw [hhm, hhb] at HH
      have hhd := hide (show headB V (conL o) s = (fb && decide (hm = s.machine)) by unfold headB; rw [hfb, hhm])
      clear hfb hhm hhb
      go_upto_region 8 with (go_at_call 18; refine (HF _).mono ?_; rintro r w8 ⟨m, rfl, hmc, hmo, -, -, hb8⟩; have l8 := later hb8)
      refine wp_name ?_
      intro w9 hw9
      have b9 : w9.heap[w8.heap.size]? = some (.cells #[.int .i64 m.iDMachine, .int .i64 m.iDSerial, .int .i64 m.kind, .int .i64 m.clas, .slice m.A m.fields.length m.c] 41 (0, 0)) := (by rw [← hw9]; simp only [heap_alloc_if, World.size_alloc]; repeat (first | rw [if_pos trivial] | rw [if_neg (by omega)] | rw [if_pos (by omega)]); try rfl)
      have hb89 : Below w8.heap.size w8 w9 := by rw [← hw9]; exact (by repeat (first | with_reducible exact Below.refl _ _ | (with_reducible refine Below.drew ?_) | (with_reducible refine below_drewN ?_ _) | (with_reducible refine Below.alloc ?_ ?_ _; rotate_left; (first | omega | (simp <;> omega))) | (with_reducible refine Below.setCell ?_ ?_ _; rotate_left; (first | omega | (simp <;> omega)))))
      have l78 : Later w7 w8 := ⟨below_of⟩
      clear hw9
      have l79 : Later w7 w9 := ⟨l78.below.trans (hb89.mono l78.below.size)⟩
      have B9 := boxed b9
      have l99 : Later w9 w9 := Later.refl
      have hms := ((hmo.at_ ValE.enc).2.2).below hb89
      clear hmo b9
      go_upto_region 9 with (go_at_call 47; refine (HH _).mono ?_; rintro r w10 ⟨rfl, hb10⟩; have l10 := later hb10)
      have l9a : Later w9 w10 := ⟨below_of⟩
      have l7a : Later w7 w10 := l79.trans l9a
      have lwa : Later w w10 := lw6.trans (l67.trans l7a)
      have l6a : Later w6 w10 := l67.trans l7a
      have laa : Later w10 w10 := Later.refl
      have B8a : Boxed w10 wr.heap.size #[.int .i64 s.machine, .int .i64 s.iDMachine, .int .i64 s.iDSerial, .int .i64 s.field] 44 := fun u i => by haveI := l7a.trans i; exact B8 u
      have B9a : Boxed w10 w8.heap.size #[.int .i64 m.iDMachine, .int .i64 m.iDSerial, .int .i64 m.kind, .int .i64 m.clas, .slice m.A m.fields.length m.c] 41 := fun u i => by haveI := l9a.trans i; exact B9 u
      have hmsa := hms.below l9a.below
      have hml : m.fields.length ≤ 1000 := by
        have h1 := congrArg (fun n => n.fields.length) hmc.out
        change m.fields.length = _ at h1
        rw [h1]
        cases hf : firstN (conL o) s.id with
        | none => exact Nat.zero_le _
        | some n =>
          obtain ⟨h2, -⟩ := firstN_some hf
          obtain ⟨n', h3, rfl⟩ := List.mem_map.1 h2
          exact hofl n' h3
      clear B8 B9 hms HF HH B66 hN6 hH6
      have hend : Below w.heap.size w w10 := lwa.below
      cases fb
      · have hp := hide (show checkB V P = false by rw [hchk.out, hch.out, hdk.out]; unfold chainB; rw [hhd.out]; rfl)
        go_wp2_with fail
        go_ret
        exact ⟨ret_bool hp.out.symm, hend⟩
      by_cases hms : hm = s.machine
      rotate_left
      · have hmb : ((hm : Int) != s.machine) = true := by rw [bne_iff_ne]; exact hms
        have hp := hide (show checkB V P = false by rw [hchk.out, hch.out, hdk.out]; unfold chainB; rw [hhd.out, decide_eq_false hms]; rfl)
        clear hms
        go_wp2_with fail
        go_ret
        exact ⟨ret_bool hp.out.symm, hend⟩
      have hmb : ((hm : Int) != s.machine) = false := by rw [hms, bne_self_eq_false]
      have hhd2 := hide (show headB V (conL o) s = true by rw [hhd.out, decide_eq_true hms]; rfl)
      clear hms hhd
      have hwr : IntKind.i64.wrap ((k : Int) + 1) = (k : Int) + 1 := by rw [IntKind.wrap_i64]; omega
      by_cases hk1 : k + 1 = P.length
      · have hkb : (((k : Int) + 1) == (P.length : Int)) = true := by rw [beq_iff_eq]; omega
        have hp := hide (show checkB V P = (s.field == -1) by
          rw [hchk.out, hch.out, hdk.out, hk1, List.drop_length]
          unfold chainB
          rw [hhd2.out]
          simp only [Bool.true_and]
          exact (by rw [Bool.eq_iff_iff]; simp))
        clear hk1
        go_wp2_with fail
        go_ret
        exact ⟨ret_bool hp.out.symm, hend⟩
      have hkb : (((k : Int) + 1) == (P.length : Int)) = false := by rw [beq_eq_false_iff_ne]; omega
      have hlt2 : k + 1 < P.length := by omega
      obtain ⟨g2, o2, s2, hPA3, hs2, C2⟩ := StepE.get (hP6.out.below l6a.below) hlt2
      injection hPA3 with hPA4
      injection hPA4 with hPA5 hPA6
      subst hPA5 hPA6
      have hki2 : ((k : Int) + 1) < (P.length : Int) := by omega
      have hki0 : (0 : Int) ≤ ((k : Int) + 1) := by omega
      have hdk2 := hide (show P.drop (k + 1) = s2 :: P.drop (k + 1 + 1) by rw [List.drop_eq_getElem_cons hlt2]; congr 1; exact Option.some.inj ((List.getElem?_eq_getElem hlt2).symm.trans hs2))
      have hch2 := hide (show checkB V P = (linkB (conL o) s s2.id && chainB V (conL o) (P.drop (k + 1))) by
        rw [hchk.out, hch.out, hdk.out, hdk2.out]
        show (headB V (conL o) s && (linkB (conL o) s s2.id && _)) = _
        rw [hhd2.out, Bool.true_and])
      clear hs2 hk1
      go_upto_region 13 with fail
      have hlk : linkB (conL o) s s2.id = (!decide (m.kind = 2) && decide (0 ≤ s.field ∧ s.field < (m.fields.length : Int)) && decide (m.fields[s.field.toNat]? = some (refV s2.id))) := by
        unfold linkB
        rw [← hmc.out]
        rfl
      by_cases hk2 : m.kind = 2
      · have hkb2 : ((m.kind : Int) == 2) = true := by rw [beq_iff_eq]; exact hk2
        have hp := hide (show checkB V P = false by rw [hch2.out, hlk, decide_eq_true hk2]; rfl)
        clear hk2 hlk
        (refine wp_region_after (by kernel_rfl) (by kernel_rfl) ?_
         repeat (any_goals (first | go_big_quiet_skip | (go_big_quiet_want; go_big_quiet_op; first | go_big_quiet_on | go_big_quiet_call (fail)) | quiet_step (fail) | (refine wpQuiet_step (fun K hK => ?_); go_simp; split <;> (refine hK _ ?_; clear hK K))))
         all_goals (refine wpQuiet_nil ?_; intro _ hw'; obtain ⟨u', hw''⟩ := hw'; subst hw''; obtain ⟨wd, hbd⟩ := u'; simp only [After.val_mk]))
        go_wp2_with fail
        go_ret
        exact ⟨ret_bool hp.out.symm, hend.trans (hbd.mono hend.size)⟩
      have hkb2 : ((m.kind : Int) == 2) = false := by rw [beq_eq_false_iff_ne]; exact hk2
      by_cases hf0 : s.field < 0
      · have hp := hide (show checkB V P = false by rw [hch2.out, hlk, decide_eq_false (show ¬ (0 ≤ s.field ∧ s.field < (m.fields.length : Int)) by omega)]; simp)
        have hfb : decide (s.field < 0) = true := decide_eq_true hf0
        clear hk2 hlk hf0
        (refine wp_region_after (by kernel_rfl) (by kernel_rfl) ?_
         repeat (any_goals (first | go_big_quiet_skip | (go_big_quiet_want; go_big_quiet_op; first | go_big_quiet_on | go_big_quiet_call (fail)) | quiet_step (fail) | (refine wpQuiet_step (fun K hK => ?_); go_simp; split <;> (refine hK _ ?_; clear hK K))))
         all_goals (refine wpQuiet_nil ?_; intro _ hw'; obtain ⟨u', hw''⟩ := hw'; subst hw''; obtain ⟨wd, hbd⟩ := u'; simp only [After.val_mk]))
        go_wp2_with fail
        go_ret
        exact ⟨ret_bool hp.out.symm, hend.trans (hbd.mono hend.size)⟩
      obtain ⟨f, hf⟩ : ∃ f : Nat, s.field = (f : Int) := ⟨s.field.toNat, by omega⟩
      rw [hf] at hlk B8a
      have hfb : decide ((f : Int) < 0) = false := decide_eq_false (by omega)
      by_cases hf1 : f < m.fields.length
      rotate_left
      · have hp := hide (show checkB V P = false by rw [hch2.out, hlk, decide_eq_false (show ¬ (0 ≤ (f : Int) ∧ (f : Int) < (m.fields.length : Int)) by omega)]; simp)
        have hfc : (m.fields.length : Int) ≤ (f : Int) := by omega
        clear hk2 hlk hf0 hf1 hf
        (refine wp_region_after (by kernel_rfl) (by kernel_rfl) ?_
         repeat (any_goals (first | go_big_quiet_skip | (go_big_quiet_want; go_big_quiet_op; first | go_big_quiet_on | go_big_quiet_call (fail)) | quiet_step (fail) | (refine wpQuiet_step (fun K hK => ?_); go_simp; split <;> (refine hK _ ?_; clear hK K))))
         all_goals (refine wpQuiet_nil ?_; intro _ hw'; obtain ⟨u', hw''⟩ := hw'; subst hw''; obtain ⟨wd, hbd⟩ := u'; simp only [After.val_mk]))
        go_wp2_with fail
        go_ret
        exact ⟨ret_bool hp.out.symm, hend.trans (hbd.mono hend.size)⟩
      have hfc : decide ((m.fields.length : Int) ≤ (f : Int)) = false := decide_eq_false (by omega)
      have hfi : (f : Int) < (m.fields.length : Int) := by omega
      obtain ⟨gf, of, vf, hmA, hvf, Cf⟩ := ValE.get hmsa hf1
      rw [hmA] at B9a
      have hlk2 := hide (show linkB (conL o) s s2.id = decide (vf = refV s2.id) by
        rw [hlk, decide_eq_false hk2, decide_eq_true (show 0 ≤ (f : Int) ∧ (f : Int) < (m.fields.length : Int) from ⟨by omega, hfi⟩), show ((f : Int)).toNat = f from rfl, hvf]
        simp)
      clear hlk hvf hf0 hk2 hf hmsa
      by_cases hvr : vf = refV s2.id
      rotate_left
      · have hp := hide (show checkB V P = false by rw [hch2.out, hlk2.out, decide_eq_false hvr]; rfl)
        have hq : ∀ u, (binOp .neq 100 vf.v (.agg #[.int .i64 2, .int .i64 0, .int .i64 s2.iDMachine, .int .i64 s2.iDSerial])).run Tryz.prog u = .ok (.bool true) u := fun u => by
          have := run_neq_ValE vf (refV s2.id) u
          rw [show ValE.beq vf (refV s2.id) = false by cases hb : ValE.beq vf (refV s2.id); rfl; exact absurd (ValE.beq_iff.1 hb) hvr] at this
          exact this
        clear hvr
        (refine wp_region_after (by kernel_rfl) (by kernel_rfl) ?_
         repeat (any_goals (first | go_big_quiet_skip | (go_big_quiet_want; go_big_quiet_op; first | go_big_quiet_on | go_big_quiet_call (fail)) | quiet_step (fail) | (refine wpQuiet_step (fun K hK => ?_); go_simp; split <;> (refine hK _ ?_; clear hK K))))
         all_goals (refine wpQuiet_nil ?_; intro _ hw'; obtain ⟨u', hw''⟩ := hw'; subst hw''; obtain ⟨wd, hbd⟩ := u'; simp only [After.val_mk]))
        go_wp2_with fail
        go_ret
        exact ⟨ret_bool hp.out.symm, hend.trans (hbd.mono hend.size)⟩
      have hch3 := hide (show chainB V (conL o) P = chainB V (conL o) (P.drop (k + 1)) by
        rw [hch.out, hdk.out, hdk2.out]
        show (headB V (conL o) s && (linkB (conL o) s s2.id && _)) = _
        rw [hhd2.out, hlk2.out, decide_eq_true hvr]
        rfl)
      have hq : ∀ u, (binOp .neq 100 vf.v (.agg #[.int .i64 2, .int .i64 0, .int .i64 s2.iDMachine, .int .i64 s2.iDSerial])).run Tryz.prog u = .ok (.bool false) u := fun u => by
        have := run_neq_ValE vf (refV s2.id) u
        rw [show ValE.beq vf (refV s2.id) = true from ValE.beq_iff.2 hvr] at this
        exact this
      clear hvr
      (refine wp_region_after (by kernel_rfl) (by kernel_rfl) ?_
       repeat (any_goals (first | go_big_quiet_skip | (go_big_quiet_want; go_big_quiet_op; first | go_big_quiet_on | go_big_quiet_call (fail)) | quiet_step (fail) | (refine wpQuiet_step (fun K hK => ?_); go_simp; split <;> (refine hK _ ?_; clear hK K))))
       all_goals (refine wpQuiet_nil ?_; intro _ hw'; obtain ⟨u', hw''⟩ := hw'; subst hw''; obtain ⟨wd, hbd⟩ := u'; simp only [After.val_mk]))
      go_wp2_with fail
      go_roundw
      case rel => exact ⟨k + 1, by omega, by go_num, hch3, l6a.below.trans (hbd.mono l6a.below.size)⟩
      case measure => simp [intOf]; omega
    · have hk' : k = P.length := by omega
      subst hk'
      have hfin := hide (show checkB V P = false by rw [hchk.out, hch.out, List.drop_length]; rfl)
      go_wp2_with fail
      go_ret
      exact ⟨ret_bool hfin.out.symm, lw6.below.trans (hbr.mono lw6.below.size)⟩
end Go.Proofs.YtpkfenlfgdbkcaaGreatDoor

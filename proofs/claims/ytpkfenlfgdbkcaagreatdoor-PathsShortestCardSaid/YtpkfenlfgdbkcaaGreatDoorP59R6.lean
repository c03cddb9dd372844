/-
  Contracts of the functions of this seat that each theorem names: what a call returns, and that it writes nothing that was there before. The conditions stand in each theorem.
-/
import Derived.Test.YtpkfenlfgdbkcaaGreatDoorP59R5
import Derived.Test.YtpkfenlfgdbkcaaGreatDoorP59Step
import Derived.Deep.RegionHeld3
set_option linter.unusedSimpArgs false
set_option linter.unusedVariables false
namespace Go.Proofs.YtpkfenlfgdbkcaaGreatDoor
open Go.RowKit
attribute [local go_sem] Oper.semAt_some Instr.makeFunc
attribute [local simp] heap_drew
attribute [local go_sem ↓] load_view_pre load_flight_pre load_msg_pre store_view_pre store_flight_pre store_msg_pre load_scion_pre store_scion_pre
attribute [local go_sem] load_view load_flight load_msg store_view store_flight store_msg load_scion store_scion view_isRow zero_isRow scion_isRow zeroS_isRow rowFree_new setRow_new view_arr0 view_arr2 view_arr3 view_arr4 view_arr5 view_arr6 view_arr9 view_arr10 flight_arr0 flight_arr1 flight_arr2 flight_arr3 flight_arr6 flight_arr7 flight_arr8 flight_arr9 flight_arr10 flight_arr11 flight_arr12 flight_arr13 flight_arr17 flight_arr18 flight_arr19 flight_arr20 flight_arr21 flight_arr22 flight_arr23 flight_arr24 flight_arr25 msg_arr0 msg_arr1 msg_arr4 msg_arr5 msg_arr6 msg_arr7 msg_arr8 msg_arr9 msg_arr10 msg_arr11 msg_arr15 msg_arr16 msg_arr17 msg_arr18 msg_arr19 msg_arr20 msg_arr21 msg_arr22 msg_arr23
attribute [local go_sem ↓] run_eql_id run_neq_id
def isRefTo (x : IDE) (y : ValE) : Bool := y.kind == 2 && decide (y.ref = x)
def rFieldN (n : NodeC) (x : IDE) : Int := if n.kind = 2 then -1 else idxOf (isRefTo x) n.fields
set_option maxRecDepth 100000 in
set_option maxHeartbeats 4000000 in
theorem refField_any (n : NodeE) (x : IDE) (w : World) (hf : SlAt ValE.cells 4 w n.A n.fields) (hl : n.fields.length ≤ 1000000000) : Calls Tryz.prog 16 #[n.v, x.v] w fun r w' => r = .returned (.int .i64 (rFieldN n.con x)) ∧ Below w.heap.size w w' := by
  have HS : ∀ u [Later w u], SlAt ValE.cells 4 u n.A n.fields := fun u i => hf.below i.below
  have hl' : n.fields.length ≤ 9223372036854775807 := by omega
  obtain ⟨R, hR⟩ : ∃ R, rFieldN n.con x = R := ⟨_, rfl⟩
  rw [hR]
  have HR := hide (show (if n.kind = 2 then -1 else idxOf (isRefTo x) n.fields) = R from hR)
  clear hR
  obtain ⟨nA, hnA⟩ : ∃ A, n.A = A := ⟨_, rfl⟩
  rw [hnA] at HS
  obtain ⟨q0, hq0⟩ : ∃ q, (n.kind != 2) = q := ⟨_, rfl⟩
  go_enter Tryz.func16, Tryz.ntmps16
  go_upto_region 1 with fail
  refine wp_name ?_
  intro w0 hw0
  have b2 : w0.heap[w.heap.size]? = some (.cells #[.int .i64 n.iDMachine, .int .i64 n.iDSerial, .int .i64 n.kind, .int .i64 n.clas, .slice nA n.fields.length n.c] 41 (0, 0)) := (by rw [← hw0]; simp only [heap_alloc_if, World.size_alloc]; repeat (first | rw [if_pos trivial] | rw [if_neg (by omega)] | rw [if_pos (by omega)]); try rfl)
  have b3 : w0.heap[w.heap.size + 1]? = some (.cells #[.int .i64 x.machine, .int .i64 x.serial] 24 (0, 0)) := (by rw [← hw0]; simp only [heap_alloc_if, World.size_alloc]; repeat (first | rw [if_pos trivial] | rw [if_neg (by omega)] | rw [if_pos (by omega)]); try rfl)
  have hb0 : Below w.heap.size w w0 := by rw [← hw0]; exact (by repeat (first | with_reducible exact Below.refl _ _ | (with_reducible refine Below.drew ?_) | (with_reducible refine below_drewN ?_ _) | (with_reducible refine Below.alloc ?_ ?_ _; rotate_left; (first | omega | (simp <;> omega))) | (with_reducible refine Below.setCell ?_ ?_ _; rotate_left; (first | omega | (simp <;> omega)))))
  clear hw0
  have lw0 : Later w w0 := ⟨hb0⟩
  have B2 := boxed b2
  have B3 := boxed b3
  have l00 : Later w0 w0 := Later.refl
  clear b2 b3
  go_wp2_with fail
  go_loopw [5] (fun iv wr => ∃ k : Nat, k ≤ n.fields.length ∧ iv = .int .i64 k ∧ NoneTo (isRefTo x) n.fields k ∧ Below w0.heap.size w0 wr) (fun iv _ => n.fields.length - (intOf iv).toNat)
  case atStart => exact ⟨0, by omega, rfl, NoneTo.zero, Below.refl _ _⟩
  case round =>
    obtain ⟨k, hk, rfl, hno, hbr⟩ := hrel
    have lr := later hbr
    have lrr : Later wr wr := Later.refl
    have l0r : Later w0 wr := ⟨hbr⟩
    have Hno := hide hno
    clear hno
    by_cases hlt : k < n.fields.length
    rotate_left
    · have hk' : k = n.fields.length := by omega
      subst hk'
      have hr := hide (show R = -1 by
        rw [← HR.out]
        split
        · rfl
        · exact idxOf_miss Hno.out)
      go_wp2_with fail
      go_ret
      exact ⟨by rw [hr.out]; rfl, below_of⟩
    have hki : (k : Int) < (n.fields.length : Int) := by omega
    cases q0
    · have hr := hide (show R = -1 by
        rw [← HR.out, if_pos (by simpa using hq0)])
      go_wp2_with fail
      go_ret
      exact ⟨by rw [hr.out]; rfl, below_of⟩
    have hkn := hide (show R = idxOf (isRefTo x) n.fields by rw [← HR.out, if_neg (by simpa using hq0)])
    obtain ⟨b1, o1, y, hA, hy, C1⟩ := ValE.get (HS wr) hlt
    rw [hA] at B2
    have Hy := hide hy
    clear hy
    obtain ⟨q1, hq1⟩ : ∃ q, (y.kind == 2) = q := ⟨_, rfl⟩
    obtain ⟨q2, hq2⟩ : ∃ q, ideq y.refMachine y.refSerial x.machine x.serial = q := ⟨_, rfl⟩
    have hq := hide (show isRefTo x y = (q1 && q2) by
      unfold isRefTo
      rw [hq1, ← hq2, show ideq y.refMachine y.refSerial x.machine x.serial = decide (y.ref = x) from @ideq_iff y.ref x])
    cases q1
    · have hno2 := hide (Hno.out.succ Hy.out (by rw [hq.out]; rfl))
      go_upto_region 4 with fail
      (refine wp_region_after (by kernel_rfl) (by kernel_rfl) ?_
       repeat (any_goals (first | go_big_quiet_skip | (go_big_quiet_want; go_big_quiet_op; first | go_big_quiet_on | go_big_quiet_call (fail)) | quiet_step (fail) | (refine wpQuiet_step (fun K hK => ?_); go_simp; split <;> (refine hK _ ?_; clear hK K))))
       all_goals (refine wpQuiet_nil ?_; intro _ hw'; obtain ⟨u', hw''⟩ := hw'; subst hw''; obtain ⟨wd, hbd⟩ := u'; simp only [After.val_mk]))
      have ld := later hbd
      go_wp2_with fail
      go_roundw
      case rel => exact ⟨k + 1, by omega, by go_num, hno2.out, below_of⟩
      case measure => simp [intOf]; omega
    cases q2
    · have hno2 := hide (Hno.out.succ Hy.out (by rw [hq.out]; rfl))
      go_upto_region 4 with fail
      (refine wp_region_after (by kernel_rfl) (by kernel_rfl) ?_
       repeat (any_goals (first | go_big_quiet_skip | (go_big_quiet_want; go_big_quiet_op; first | go_big_quiet_on | go_big_quiet_call (fail)) | quiet_step (fail) | (refine wpQuiet_step (fun K hK => ?_); go_simp; split <;> (refine hK _ ?_; clear hK K))))
       all_goals (refine wpQuiet_nil ?_; intro _ hw'; obtain ⟨u', hw''⟩ := hw'; subst hw''; obtain ⟨wd, hbd⟩ := u'; simp only [After.val_mk]))
      have ld := later hbd
      go_wp2_with fail
      go_roundw
      case rel => exact ⟨k + 1, by omega, by go_num, hno2.out, below_of⟩
      case measure => simp [intOf]; omega
    have hr := hide (show R = (k : Int) by rw [hkn.out]; exact idxOf_hit Hy.out (by rw [hq.out]; rfl) Hno.out)
    go_upto_region 4 with fail
    (refine wp_region_after (by kernel_rfl) (by kernel_rfl) ?_
     repeat (any_goals (first | go_big_quiet_skip | (go_big_quiet_want; go_big_quiet_op; first | go_big_quiet_on | go_big_quiet_call (fail)) | quiet_step (fail) | (refine wpQuiet_step (fun K hK => ?_); go_simp; split <;> (refine hK _ ?_; clear hK K))))
     all_goals (refine wpQuiet_nil ?_; intro _ hw'; obtain ⟨u', hw''⟩ := hw'; subst hw''; obtain ⟨wd, hbd⟩ := u'; simp only [After.val_mk]))
    have ld := later hbd
    go_wp2_with fail
    go_ret
    exact ⟨by rw [hr.out]; rfl, below_of⟩
/-- The reference's step that is not the last. -/
def rstepV (V : List ViewE) (G : List NodeC) (x y : IDE) : StepE := ⟨(homeV V x).1, x.machine, x.serial, rFieldN ((firstN G x).getD zeroC) y⟩
set_option maxRecDepth 100000 in
set_option maxHeartbeats 4000000 in
theorem refStep_any (A : Option Addr) (c : Nat) (V : List ViewE) (GA : Option Addr) (gc : Nat) (G : List NodeE) (x y : IDE) (w : World) (H : ViewsAt w A V) (hf : FewV V) (HG : NodesAt w GA G) (hl : G.length ≤ 1000) (hfl : ∀ n ∈ G, n.fields.length ≤ 1000) :
    Calls Tryz.prog 32 #[.slice A V.length c, .agg #[.slice GA G.length gc], x.v, y.v, .bool false] w fun r w' => r = .returned (rstepV V (conL G) x y).v ∧ Below w.heap.size w w' := by
  have HH : ∀ u [Later w u], Calls Tryz.prog 62 #[.slice A V.length c, x.v] u (HomePost V x u) := fun u i => refHome_any A c V x u (H.later u) hf
  have HF : ∀ u [Later w u], Calls Tryz.prog 29 #[.agg #[.slice GA G.length gc], x.v] u (Find16Post G x u) := fun u i => find16_any GA gc G x u (HG.later u) (by omega)
  unfold HomePost at HH
  unfold Find16Post at HF
  obtain ⟨hm, hhm⟩ : ∃ n, (homeV V x).1 = n := ⟨_, rfl⟩
  obtain ⟨hb, hhb⟩ : ∃ n, (homeV V x).2 = n := ⟨_, rfl⟩
  rw [hhm, hhb] at HH
  obtain ⟨m, hm0⟩ : ∃ m, (firstE G x).getD zeroN = m := ⟨_, rfl⟩
  obtain ⟨fb, hfb⟩ : ∃ b, (firstE G x).isSome = b := ⟨_, rfl⟩
  rw [hm0, hfb] at HF
  have hmc : (firstN (conL G) x).getD zeroC = m.con := by
    rw [firstE_N, ← hm0]
    cases firstE G x <;> rfl
  have hmf : SlAt ValE.cells 4 w m.A m.fields ∧ m.fields.length ≤ 1000 := by
    rw [← hm0]
    cases hfe : firstE G x with
    | none => exact ⟨SlAt.nil, Nat.zero_le _⟩
    | some n => exact ⟨HG.f n (firstE_some hfe).1, hfl n (firstE_some hfe).1⟩
  have hms := hmf.1.later
  have hml := hmf.2
  have HFd : ∀ u [Later w u], Calls Tryz.prog 16 #[m.v, y.v] u fun r w' => r = .returned (.int .i64 (rFieldN m.con y)) ∧ Below u.heap.size u w' := fun u i => refField_any m y u (hms u) (by omega)
  obtain ⟨fd, hfd⟩ : ∃ n, rFieldN m.con y = n := ⟨_, rfl⟩
  rw [hfd] at HFd
  have hR := hide (show rstepV V (conL G) x y = ⟨hm, x.machine, x.serial, fd⟩ by unfold rstepV; rw [hhm, hmc, hfd])
  clear hhm hhb H HG hm0 hfb hmc hmf hms hfd
  go_enter Tryz.func32, Tryz.ntmps32
  go_upto_region 1 with fail
  refine wp_name ?_
  intro w1 hw1
  have b8 : w1.heap[w.heap.size + 1 + 1 + 1]? = some (.cells #[.int .i64 0, .int .i64 0, .int .i64 0, .int .i64 0] 44 (0, 0)) := (by rw [← hw1]; simp only [heap_alloc_if, World.size_alloc]; repeat (first | rw [if_pos trivial] | rw [if_neg (by omega)] | rw [if_pos (by omega)]); try rfl)
  obtain ⟨B5, B6, B7, B8, l1⟩ := box4 hw1
  have lw1 : Later w w1 := l1 w
  have l11 : Later w1 w1 := Later.refl
  have hz1 : w1.heap.size = w.heap.size + 1 + 1 + 1 + 1 := by rw [← hw1]; simp
  clear hw1
  go_upto_region 4 with (go_at_call 62; refine (HH _).mono ?_; rintro r w2 ⟨rfl, hb2⟩; have l2 := later hb2)
  go_upto_region 5 with (go_at_call 29; refine (HF _).mono ?_; rintro r w3 ⟨rfl, hb3⟩; have l3 := later hb3)
  refine wp_name ?_
  intro w4 hw4
  have b11 : w4.heap[w3.heap.size]? = some (.cells #[.int .i64 m.iDMachine, .int .i64 m.iDSerial, .int .i64 m.kind, .int .i64 m.clas, .slice m.A m.fields.length m.c] 41 (0, 0)) := (by rw [← hw4]; simp only [heap_alloc_if, World.size_alloc]; repeat (first | rw [if_pos trivial] | rw [if_neg (by omega)] | rw [if_pos (by omega)]); try rfl)
  have l4 : Later w1 w4 := ⟨by rw [← hw4]; exact below_of⟩
  clear hw4
  have lw4 : Later w w4 := lw1.trans l4
  have B11 := boxed b11
  have l44 : Later w4 w4 := Later.refl
  have b84 := blk_below b8 l4.below
  have HFd4 : ∀ u [Later w4 u], Calls Tryz.prog 16 #[m.v, y.v] u fun r w' => r = .returned (.int .i64 fd) ∧ Below u.heap.size u w' := fun u i => by haveI := lw4.trans i; exact HFd u
  clear HFd HF HH b11 b8
  have hn1 : w.heap.size + 1 + 1 + 1 ≠ w3.heap.size := by have := (show Later w1 w3 from ⟨below_of⟩).below.size; omega
  have cx : ∀ u [Later w4 u], u.cell? ⟨w.heap.size + 1, 0, none⟩ = some (.int .i64 x.machine) ∧ u.cell? ⟨w.heap.size + 1, 1, none⟩ = some (.int .i64 x.serial) ∧ u.cell? ⟨w.heap.size + 1 + 1, 0, none⟩ = some (.int .i64 y.machine) ∧ u.cell? ⟨w.heap.size + 1 + 1, 1, none⟩ = some (.int .i64 y.serial) ∧
      u.cell? ⟨w3.heap.size, 0, none⟩ = some (.int .i64 m.iDMachine) ∧ u.cell? ⟨w3.heap.size, 1, none⟩ = some (.int .i64 m.iDSerial) ∧ u.cell? ⟨w3.heap.size, 2, none⟩ = some (.int .i64 m.kind) ∧ u.cell? ⟨w3.heap.size, 3, none⟩ = some (.int .i64 m.clas) ∧ u.cell? ⟨w3.heap.size, 4, none⟩ = some (.slice m.A m.fields.length m.c) := fun u i => by
    haveI := l4.trans i
    exact ⟨((B6 u).2 0).1, ((B6 u).2 1).1, ((B7 u).2 0).1, ((B7 u).2 1).1, ((B11 u).2 0).1, ((B11 u).2 1).1, ((B11 u).2 2).1, ((B11 u).2 3).1, ((B11 u).2 4).1⟩
  obtain ⟨q0, q1, q2, q3, q4, q5, q6, q7, q8⟩ := cx w4
  have hn2 : w.heap.size + 1 + 1 + 1 ≠ w.heap.size + 1 := by omega
  have hn3 : w.heap.size + 1 + 1 + 1 ≠ w.heap.size + 1 + 1 := by omega
  have hle : w.heap.size ≤ w.heap.size + 1 + 1 + 1 := by omega
  clear B5 B6 B7 B8 B11 hz1
  obtain ⟨g8, h8⟩ : ∃ y, y = w.heap.size + 1 + 1 + 1 := ⟨_, rfl⟩
  rw [← h8] at hn1 hn2 hn3 hle b84 ⊢
  clear h8
  obtain ⟨g7, h7⟩ : ∃ y, y = w.heap.size + 1 + 1 := ⟨_, rfl⟩
  rw [← h7] at hn3 q2 q3 ⊢
  simp only [← h7] at cx
  clear h7
  obtain ⟨g6, h6⟩ : ∃ y, y = w.heap.size + 1 := ⟨_, rfl⟩
  rw [← h6] at hn2 q0 q1 ⊢
  simp only [← h6] at cx
  clear h6
  obtain ⟨g3, h3⟩ : ∃ y, y = w3.heap.size := ⟨_, rfl⟩
  rw [← h3] at hn1 q4 q5 q6 q7 q8 ⊢
  simp only [← h3] at cx
  clear h3
  have B8 := boxed b84
  go_region_held3 (fun w' => w'.cell? ⟨g6, 0, none⟩ = some (.int .i64 x.machine) ∧ w'.cell? ⟨g6, 1, none⟩ = some (.int .i64 x.serial) ∧ w'.cell? ⟨g7, 0, none⟩ = some (.int .i64 y.machine) ∧ w'.cell? ⟨g7, 1, none⟩ = some (.int .i64 y.serial) ∧
      w'.cell? ⟨g3, 0, none⟩ = some (.int .i64 m.iDMachine) ∧ w'.cell? ⟨g3, 1, none⟩ = some (.int .i64 m.iDSerial) ∧ w'.cell? ⟨g3, 2, none⟩ = some (.int .i64 m.kind) ∧ w'.cell? ⟨g3, 3, none⟩ = some (.int .i64 m.clas) ∧ w'.cell? ⟨g3, 4, none⟩ = some (.slice m.A m.fields.length m.c)) (first | go_keep)
    ((first
      | (go_at_call 16; refine (HFd4 _).mono ?_; rintro r w5 ⟨rfl, hb5⟩; have l5 := later hb5; obtain ⟨p0, p1, p2, p3, p4, p5, p6, p7, p8⟩ := cx w5)
      | fail))
  have bw5 : Below w.heap.size w w5 := below_of
  have e := blk_set (blk_set (blk_set (blk_set (B8 w5).1 0 (.int .i64 hm)) 1 (.int .i64 x.machine)) 2 (.int .i64 x.serial)) 3 (.int .i64 fd)
  have hbe : Below w.heap.size w ((((w5.setCell ⟨g8, 0, none⟩ (.int .i64 hm)).setCell ⟨g8, 1, none⟩ (.int .i64 x.machine)).setCell ⟨g8, 2, none⟩ (.int .i64 x.serial)).setCell ⟨g8, 3, none⟩ (.int .i64 fd)) := (((bw5.setCell (p := ⟨g8, 0, none⟩) hle _).setCell (p := ⟨g8, 1, none⟩) hle _).setCell (p := ⟨g8, 2, none⟩) hle _).setCell (p := ⟨g8, 3, none⟩) hle _
  have hld := load_step e
  generalize ((((w5.setCell ⟨g8, 0, none⟩ (.int .i64 hm)).setCell ⟨g8, 1, none⟩ (.int .i64 x.machine)).setCell ⟨g8, 2, none⟩ (.int .i64 x.serial)).setCell ⟨g8, 3, none⟩ (.int .i64 fd)) = w9 at hbe hld e ⊢
  have l99 : Later w9 w9 := Later.refl
  go_wp2_with fail
  exact bodyPost_ret (results_cell rfl rfl hld) rfl ⟨by rw [hR.out], hbe⟩
end Go.Proofs.YtpkfenlfgdbkcaaGreatDoor

/-
  Contracts of the functions of this seat that each theorem names: what a call returns, and that it writes nothing that was there before. The conditions stand in each theorem.
-/
import Derived.Test.YtnfpbkimdhhmfaaG30Awake
import Derived.Test.YtnfpbkimdhhmfaaG30Dead4
import Derived.Deep.MidRow
namespace Go.Proofs.Ytnfpbkimdhhmfaa
open Go.RowKit
attribute [local simp] heap_drew
theorem neq_ref (w : World) : (binOp .neq 39 (.agg #[.int .i64 0, .int .i64 0, .int .i64 0, .int .u64 0, .int .i64 0, .int .i64 0, .int .i64 0, .bool false]) (.agg #[.int .i64 0, .int .i64 0, .int .i64 0, .int .u64 0, .int .i64 0, .int .i64 0, .int .i64 0, .bool false])).run Try.prog w = .ok (.bool false) w := by kernel_rfl
theorem neq_tr (w : World) : (binOp .neq 47 (.agg #[.int .i64 0, .int .i64 0]) (.agg #[.int .i64 0, .int .i64 0])).run Try.prog w = .ok (.bool false) w := by kernel_rfl
attribute [local go_sem ↓] neq_ref neq_tr
theorem msg_load {u : World} {g o : Nat} {m : MsgE} (hc : ∀ j v, m.cells[j]? = some v → u.cell? ⟨g, o + j, none⟩ = some v) : (Instr.loadAt 55 (.pointer (some ⟨g, o, none⟩))).run Try.prog u = .ok (.agg m.arr) u :=
  run_loadAt_mid (P := Try.prog) u g o 55 m.cells _ hc Try.underlying55 rfl (by kernel_rfl)
set_option maxRecDepth 100000 in
set_option maxHeartbeats 4000000 in
theorem lawDead_any (A : Option Addr) (c : Nat) (l : List ScionE) (EA : Option Addr) (ec : Nat) (es : List StubE) (w : World) (hS : SlAt ScionE.cells 12 w A l) (hE : SlAt StubE.cells 12 w EA es) :
    Calls Try.prog 4 #[.slice A l.length c, .slice EA es.length ec] w fun r w' => r = .returned (.bool true) ∧ Below w.heap.size w w' := by
  have HL : ∀ u [Later w u], SlAt ScionE.cells 12 u A l := fun u i => hS.below i.below
  have HE : ∀ u [Later w u], SlAt StubE.cells 12 u EA es := fun u i => hE.below i.below
  go_enter Try.func4, Try.ntmps4
  go_upto_region 3 with (go_at_call 9; refine (awake_any _).mono ?_; rintro r w1 ⟨rfl, hb1⟩; have l1 := later hb1)
  by_cases h30 : 30 < l.length
  · have h30i : (30 : Int) < (l.length : Int) := by omega
    go_wp2_with fail
    go_ret
    exact ⟨rfl, below_of⟩
  have h30i : ¬ (30 : Int) < (l.length : Int) := by omega
  by_cases h31 : 30 < es.length
  · have h31i : (30 : Int) < (es.length : Int) := by omega
    go_wp2_with fail
    go_ret
    exact ⟨rfl, below_of⟩
  have h31i : ¬ (30 : Int) < (es.length : Int) := by omega
  have HD : ∀ u [Later w u], Calls Try.prog 14 #[.slice A l.length c, .slice EA es.length ec] u (MsgPost es l u) := fun u i => deadScions_any A c l EA ec es u (HL u) (HE u) (by omega) (by omega)
  have HR : ∀ u [Later w u], Calls Try.prog 15 #[.slice A l.length c, .slice EA es.length ec] u (MsgPost es l u) := fun u i => refDeadScions_any A c l EA ec es u (HL u) (HE u) (by omega) (by omega)
  have hml : (msgL es l).length ≤ 30 := Nat.le_trans (List.length_filterMap_le _ _) (by omega)
  go_upto_region 6 with (first
    | (go_at_call 14; refine (HD _).mono ?_; rintro r w2 ⟨o, OA, Oc, ho, rfl, hoo, hb2⟩; have l2 := later hb2; have l22 : Later w2 w2 := Later.refl)
    | (go_at_call 15; refine (HR _).mono ?_; rintro r w3 ⟨p, PA, Pc, hp, rfl, hpo, hb3⟩; have l3 := later hb3; have l33 : Later w3 w3 := Later.refl))
  have hpe : p = o := hp.out.trans ho.out.symm
  subst hpe
  have hol : p.length ≤ 30 := by rw [hp.out]; exact hml
  have HO : ∀ u [Later w3 u], SlAt MsgE.cells 39 u OA p := fun u i => by haveI := (l3 w2).trans i; exact ((hoo.later u).at_ MsgE.enc).2.2
  have HP : ∀ u [Later w3 u], SlAt MsgE.cells 39 u PA p := fun u i => ((hpo.below i.below).at_ MsgE.enc).2.2
  clear HD HR ho hp hml hoo hpo hb2 hb3
  go_wp2_with fail
  go_loopw [7] (fun iv wr => ∃ k : Nat, k ≤ p.length ∧ iv = .int .i64 k ∧ Below w3.heap.size w3 wr) (fun iv _ => p.length - (intOf iv).toNat)
  case atStart => exact ⟨0, by omega, rfl, Below.refl _ _⟩
  case round =>
    obtain ⟨k, hk, rfl, hbr⟩ := hrel
    have lr := later hbr
    by_cases hlt : k < p.length
    · obtain ⟨g1, o1, m, rfl, hg1, hm, hc⟩ := (HO wr).at_ hlt
      obtain ⟨g2, o2, m', rfl, hg2, hm', hd⟩ := (HP wr).at_ hlt
      rw [hm] at hm'
      injection hm' with hm'
      subst hm'
      have hki : (k : Int) < (p.length : Int) := by omega
      have hmh : wr.rangeAt g1 (o1 + k * 39) m.cells := hc
      have d0 := Later.cell (hd 0 _ rfl)
      have d1 := Later.cell (hd 1 _ rfl)
      have d2 := Later.cell (hd 2 _ rfl)
      simp only [Nat.add_zero] at d0
      clear hc hd hm
      go_upto_region 11 with fail
      go_step
      go_step
      iterate 3
        go_step
        go_step
        go_step
      refine wp_load_mid 55 (.tmp 38) rfl g1 (o1 + k * 39) rfl m.cells _ hmh Try.underlying55 rfl (by kernel_rfl) ?_
      go_step
      go_step
      go_step
      go_step
      go_step
      generalize hwz : World.alloc wr _ = wz
      have hbz : Below wr.heap.size wr wz := by rw [← hwz]; exact below_of
      obtain ⟨zs, hzz, hzn⟩ : ∃ zs, wz.heap[wr.heap.size]? = some (.cells zs 55 (0, 0)) ∧ zs.size = 39 := ⟨_, by rw [← hwz]; exact heap_alloc_new wr _, rfl⟩
      clear hwz
      have hthere : wz.there wr.heap.size 0 m.cells.length := fun j hj => ⟨by rw [blk_cell hzz]; have hj : j < 39 := hj; simp [hzn]; omega, blk_free hzz _⟩
      refine wp_store_mid 55 (.tmp 8) (.tmp 39) rfl wr.heap.size 0 m.cells.toArray rfl rfl hthere (by kernel_rfl) (by rw [Array.all_eq_true_iff_forall_mem]; intro u hu; exact MsgE.enc.2 m u (by simpa using hu)) ?_
      rw [List.toList_toArray]
      have hM0 := World.rangeAt_setCells_same wz wr.heap.size 0 m.cells hthere
      have hg4 := setCells_grownBy wr.heap.size m.cells 0 wz
      have hb4 : Below wr.heap.size wr (wz.setCells wr.heap.size 0 m.cells) := hbz.grown hg4 hbz.size (fun k hk => by injection hk with hk; omega)
      generalize wz.setCells wr.heap.size 0 m.cells = w4 at hM0 hb4 ⊢
      have hM : ∀ j v, m.cells[j]? = some v → w4.cell? ⟨wr.heap.size, j, none⟩ = some v := fun j v hv => by simpa using hM0 j v hv
      clear hM0 hg4 hthere hzz hbz
      have l4 := later hb4
      have l44 : Later w4 w4 := Later.refl
      generalize Value.agg m.cells.toArray = V39
      go_upto_region 12 with fail
      have m0 := Later.cell (hM 0 _ rfl)
      have m1 := Later.cell (hM 1 _ rfl)
      have m2 := Later.cell (hM 2 _ rfl)
      have m3 := Later.cell (hM 3 _ rfl)
      have m4 := Later.cell (hM 4 _ rfl)
      have m5 := Later.cell (hM 5 _ rfl)
      have m6 := Later.cell (hM 6 _ rfl)
      have m7 := Later.cell (hM 7 _ rfl)
      have m8 := Later.cell (hM 8 _ rfl)
      have m9 := Later.cell (hM 9 _ rfl)
      have m10 := Later.cell (hM 10 _ rfl)
      have m11 := Later.cell (hM 11 _ rfl)
      have m12 := Later.cell (hM 12 _ rfl)
      have m13 := Later.cell (hM 13 _ rfl)
      have m14 := Later.cell (hM 14 _ rfl)
      have m15 := Later.cell (hM 15 _ rfl)
      have m16 := Later.cell (hM 16 _ rfl)
      have m17 := Later.cell (hM 17 _ rfl)
      have m18 := Later.cell (hM 18 _ rfl)
      have m19 := Later.cell (hM 19 _ rfl)
      have m20 := Later.cell (hM 20 _ rfl)
      have m21 := Later.cell (hM 21 _ rfl)
      have m22 := Later.cell (hM 22 _ rfl)
      have m23 := Later.cell (hM 23 _ rfl)
      have m24 := Later.cell (hM 24 _ rfl)
      have m25 := Later.cell (hM 25 _ rfl)
      have m26 := Later.cell (hM 26 _ rfl)
      have m27 := Later.cell (hM 27 _ rfl)
      have m28 := Later.cell (hM 28 _ rfl)
      have m29 := Later.cell (hM 29 _ rfl)
      have m30 := Later.cell (hM 30 _ rfl)
      have m31 := Later.cell (hM 31 _ rfl)
      have m32 := Later.cell (hM 32 _ rfl)
      have m33 := Later.cell (hM 33 _ rfl)
      have m34 := Later.cell (hM 34 _ rfl)
      have m35 := Later.cell (hM 35 _ rfl)
      have m36 := Later.cell (hM 36 _ rfl)
      have m37 := Later.cell (hM 37 _ rfl)
      have m38 := Later.cell (hM 38 _ rfl)
      clear hM hmh HO HP HL HE
      refine wp_region_after (by kernel_rfl) (by kernel_rfl) ?_
      iterate 16 (first | go_big_quiet_skip | (go_big_quiet_want; go_big_quiet_op; first | go_big_quiet_on | go_big_quiet_call (fail)) | quiet_step (fail))
      as_aux_lemma =>
        iterate 16 (first | go_big_quiet_skip | (go_big_quiet_want; go_big_quiet_op; first | go_big_quiet_on | go_big_quiet_call (fail)) | quiet_step (fail))
        as_aux_lemma =>
          iterate 16 (first | go_big_quiet_skip | (go_big_quiet_want; go_big_quiet_op; first | go_big_quiet_on | go_big_quiet_call (fail)) | quiet_step (fail))
          as_aux_lemma =>
            iterate 16 (first | go_big_quiet_skip | (go_big_quiet_want; go_big_quiet_op; first | go_big_quiet_on | go_big_quiet_call (fail)) | quiet_step (fail))
            as_aux_lemma =>
              repeat (first | go_big_quiet_skip | (go_big_quiet_want; go_big_quiet_op; first | go_big_quiet_on | go_big_quiet_call (fail)) | quiet_step (fail))
              refine wpQuiet_nil ?_
              intro _ hw'
              obtain ⟨u', hw''⟩ := hw'
              subst hw''
              obtain ⟨wd, hbd⟩ := u'
              simp only [After.val_mk]
              have ld := later hbd
              go_wp2_with fail
              go_roundw
              case rel => exact ⟨k + 1, by omega, by go_num, below_of⟩
              case measure => simp [intOf]; omega
    · have hk' : k = p.length := by omega
      subst hk'
      go_wp2_with fail
      go_ret
      exact ⟨rfl, below_of⟩
end Go.Proofs.Ytnfpbkimdhhmfaa

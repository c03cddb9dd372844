/-
  Contracts of the functions of this seat that each theorem names: what a call returns, and that it writes nothing that was there before. The conditions stand in each theorem.
-/
import Derived.Test.YthigjlllhnajbaaC25Step7
namespace Go.Proofs.Ythigjlllhnajbaa
open Go.RowKit
set_option maxRecDepth 100000 in
set_option maxHeartbeats 8000000 in
theorem step7_some {base p n : Nat} {sv nv cv ov lv : Value} {st : PairS} {ls : List LA} (w : World) (P : PairAt base p w sv nv cv ov lv st ls) (hb : base ≤ w.heap.size) (hn : n < 256) (hz : 0 < ls.length) (hl : st.scions.length ≤ 1000) (hll : ls.length ≤ 1000) (hle : ∀ L ∈ ls, L.lp.entries.length ≤ 1000) :
    Calls Try.prog 23 #[.pointer (some ⟨p, 0, none⟩), .agg #[.int .u8 7, .int .u8 n]] w (PPost base p w (st.apply n)) := by
  obtain ⟨sA, sC, rfl, hsc, hsm, hsS⟩ := P.k.s.slAt StubE.enc
  obtain ⟨nA, nC, rfl, hnc, hnm, hnS⟩ := P.k.n.slAt ScionE.enc
  obtain ⟨cA, cC, rfl, hcc, hcm, hcS⟩ := P.k.c.slAt ScionE.enc
  obtain ⟨oA, oC, rfl, hoc, hom, hoS⟩ := P.k.o.slAt ScionE.enc
  obtain ⟨lA, lC, rfl, hlc, hlm, hlS⟩ := P.k.l.slAt LA.enc
  have BP := boxed P.h
  have hPl := blk_lt P.h
  have hPb := P.b
  have e1 := n64 n hn
  obtain ⟨k, hk⟩ : ∃ k, k = n % ls.length := ⟨_, rfl⟩
  have hlt : k < ls.length := by rw [hk]; exact Nat.mod_lt n hz
  have e2 : (n : Int).tmod (ls.length : Int) = (k : Int) := by rw [hk]; rfl
  have hnil : ¬ ls = [] := fun e => by rw [e] at hlt; simp at hlt
  obtain ⟨y, hy⟩ : ∃ y, ls[k]? = some y := ⟨_, List.getElem?_eq_getElem hlt⟩
  obtain ⟨b2, hb2⟩ := P.k.l.isSome hnil
  subst hb2
  go_enter Try.func23, Try.ntmps23
  go_upto_region 1 with fail
  refine wp_name ?_
  intro w1 hw1
  obtain ⟨B1, l1⟩ := box1 hw1
  have hb1 : Below w.heap.size w w1 := below_of
  clear hw1
  have P1 := P.below hb1
  have k1 := P1.k
  have Q0 : ∀ u [Later w1 u], u.cell? ⟨b2, k * 4, none⟩ = some (.int .i64 y.lp.round) := fun u i => (k1.l.below i.below).cell LA.enc hy (j := 0) rfl
  have Q1 : ∀ u [Later w1 u], u.cell? ⟨b2, k * 4 + 1, none⟩ = some (.int .i64 y.lp.sent) := fun u i => (k1.l.below i.below).cell LA.enc hy (j := 1) rfl
  have Q2 : ∀ u [Later w1 u], u.cell? ⟨b2, k * 4 + 2, none⟩ = some (.int .i64 y.lp.received) := fun u i => (k1.l.below i.below).cell LA.enc hy (j := 2) rfl
  have Q3 : ∀ u [Later w1 u], u.cell? ⟨b2, k * 4 + 3, none⟩ = some (.slice y.A y.lp.entries.length y.c) := fun u i => (k1.l.below i.below).cell LA.enc hy (j := 3) rfl
  have hym := List.mem_of_getElem? hy
  have hlp : st.lists[n % st.lists.length]? = some y.lp := by
    have e : st.lists.length = ls.length := by rw [← P.k.lp, List.length_map]
    rw [e, ← P.k.lp, List.getElem?_map, ← hk, hy]; rfl
  have l11 : Later w1 w1 := Later.refl
  have hki : (k : Int) < (ls.length : Int) := by omega
  have hk0 : (0 : Int) ≤ (k : Int) := by omega
  clear hy hk
  go_upto_region 23 with fail
  go_region_held3 (fun w' => ∀ b [Later b w1], Later b w') ((intro b _; infer_instance)) (fail)
  go_upto_region 24 with fail
  refine wp_name ?_
  intro w4 hw4
  have bx4 : w4.heap[w1.heap.size]? = some (.cells y.lv.arr 26 (0, 0)) := by rw [← hw4]; exact heap_alloc_new _ _
  have hb14 : Below w1.heap.size w1 w4 := by rw [← hw4]; exact (by repeat (first | with_reducible exact Below.refl _ _ | (with_reducible refine Below.drew ?_) | (with_reducible refine below_drewN ?_ _) | (with_reducible refine Below.alloc ?_ ?_ _; rotate_left; (first | omega | (simp <;> omega))) | (with_reducible refine Below.setCell ?_ ?_ _; rotate_left; (first | omega | (simp <;> omega)))))
  have l4 := later hb14
  clear hw4 Q0 Q1 Q2 Q3
  have BX4 := boxed bx4
  have k4 := k1.below hb14
  have P4 := P1.below hb14
  have hyL : ∀ u [Later w4 u], y.lv.at_ u := fun u i => ⟨((((k4.e y hym).at_ ListedE.enc).2.2).below i.below), by have := hle y hym; simp only [LA.lv]; omega⟩
  have HR : ∀ u [Later w4 u], Calls Try.prog 21 #[y.lv.v, .int .i64 st.applied, .int .i64 st.got] u fun r w' => r = .returned (.bool (readyB y.lv st.applied st.got)) ∧ Below u.heap.size u w' := fun u i => ready_any y.lv _ _ u (hyL u)
  rw [ready_eq] at HR
  have l44 : Later w4 w4 := Later.refl
  by_cases hrd : readyP st y.lp
  · have Hd := hide (show st.apply n = { st with scions := keptL y.lp.entries y.lp.received y.lp.sent st.scions, applied := y.lp.round } by unfold PairS.apply; rw [hlp]; exact if_pos hrd)
    simp only [hrd, decide_true] at HR
    (refine wp_region_after (by kernel_rfl) (by kernel_rfl) ?_
     repeat (any_goals (first | go_big_quiet_skip | (go_big_quiet_want; go_big_quiet_op; first | go_big_quiet_on | go_big_quiet_call ((go_at_call 21; exact Calls.after (HR _)))) | quiet_step ((go_at_call 21; exact Calls.after (HR _))) | (refine wpQuiet_step (fun K hK => ?_); go_simp; split <;> (refine hK _ ?_; clear hK K))))
     all_goals (refine wpQuiet_nil ?_; intro _ hw'; obtain ⟨u', hw''⟩ := hw'; subst hw''; obtain ⟨wd, hbd⟩ := u'; simp only [After.val_mk]))
    have ld := later hbd
    go_upto_region 25 with fail
    have Pd := P4.later wd
    have kd := Pd.k
    have hpd := Pd.h
    have hzd : base ≤ wd.heap.size := Nat.le_trans hb (show Below w.heap.size w wd from below_of).size
    have hdd : Later wd wd := Later.refl
    have bxd := (BX4 wd).1
    have BXd := boxed bxd
    have BPd := boxed hpd
    have hyLd : ∀ u [Later wd u], y.lv.at_ u := fun u i => by haveI := (ld w4).trans i; exact hyL u
    have hnSd : ∀ u [Later wd u], SlAt ScionE.cells 12 u nA st.scions := fun u i => ((kd.n.at_ ScionE.enc).2.2).below i.below
    refine wp_region_held_drew (S := fun w' => ∀ i : Nat, w'.cell? ⟨w1.heap.size, i, none⟩ = (y.lv.arr)[i]?) (by kernel_rfl) (fun i => ((BXd wd).2 i).1) (fun hHeld => ?_)
    refine wpAnyH_take (i := 0) (oi := _) (v := ?_) rfl (by kernel_rfl) (by kernel_rfl) (by kernel_rfl) (fun _ _ _ h => h) (Or.inl ⟨by rfl, ?_⟩) (by assumption) ?_
    rotate_left 1
    · (intro wy hSw; (try dsimp only at hSw); go_simp; try with_reducible rfl)
    (try simp only [Act.put])
    refine wpAnyH_take (i := 1) (oi := _) (v := ?_) rfl (by kernel_rfl) (by kernel_rfl) (by kernel_rfl) (fun _ _ _ h => h) (Or.inl ⟨by rfl, ?_⟩) (by assumption) ?_
    rotate_left 1
    · (intro wy hSw; (try dsimp only at hSw); go_simp; try with_reducible rfl)
    (try simp only [Act.put])
    refine wpAnyH_take (i := 2) (oi := _) (v := ?_) rfl (by kernel_rfl) (by kernel_rfl) (by kernel_rfl) (fun _ _ _ h => h) (Or.inl ⟨by rfl, ?_⟩) (by assumption) ?_
    rotate_left 1
    · (intro wy hSw; (try dsimp only at hSw); go_simp; try with_reducible rfl)
    (try simp only [Act.put])
    refine wpAnyH_take (i := 3) (oi := _) (v := ?_) rfl (by kernel_rfl) (by kernel_rfl) (by kernel_rfl) (fun _ _ _ h => h) (Or.inl ⟨by rfl, ?_⟩) (by assumption) ?_
    rotate_left 1
    · (intro wy hSw; (try dsimp only at hSw); go_simp; try with_reducible rfl)
    (try simp only [Act.put])
    refine wpAnyH_take (i := 5) (oi := _) (v := ?_) rfl (by kernel_rfl) (by kernel_rfl) (by kernel_rfl) (fun _ _ _ h => h) (Or.inl ⟨by rfl, ?_⟩) (by assumption) ?_
    rotate_left 1
    · (intro wy hSw; (try dsimp only at hSw); go_simp; try with_reducible rfl)
    (try simp only [Act.put])
    refine wpAnyH_ready (rs := [4]) (by kernel_rfl) (by simp) ?_
    refine AllReadyH.cons (o := _) rfl (fun K9 hK9 => ?_) AllReadyH.nil
    go_simp
    refine hK9.out _ _ (by exact fun i => ((BXd _).2 i).1) (fun hHeld => ?_)
    clear hK9 K9
    (try simp only [Act.put])
    refine wpAnyH_ready (rs := [6]) (by kernel_rfl) (by simp) ?_
    refine AllReadyH.cons (o := _) rfl (fun K9 hK9 => ?_) AllReadyH.nil
    go_simp
    refine (apply_any nA nC st.scions y.lv _ (hnSd _) (hyLd _) (by omega)).mono ?_
    rintro r w6 ⟨v1, v2, rfl, ho1, ho2, hb6⟩
    obtain ⟨A1, c1, rfl, -, -, -⟩ := ho1.slAt ScionE.enc
    obtain ⟨A2, c2, rfl, -, -, -⟩ := ho2.slAt ScionE.enc
    have l6 := later hb6
    have hd6 : Below wd.heap.size wd w6 := below_of
    have k6 := kd.below hd6
    have hp6 := (hd6.block _ (blk_lt hpd)).trans hpd
    have hap1 : Apart (.slice A1 (keptL y.lp.entries y.lp.received y.lp.sent st.scions).length c1) (.slice cA st.toClient.length cC) := apart_fresh kd.c ho1 (show Below wd.heap.size wd _ from below_of).size
    have hap2 : Apart (.slice A1 (keptL y.lp.entries y.lp.received y.lp.sent st.scions).length c1) (.slice oA st.toOwner.length oC) := apart_fresh kd.o ho1 (show Below wd.heap.size wd _ from below_of).size
    have hz6 : base ≤ w6.heap.size := Nat.le_trans hzd hd6.size
    have ho1' : Own ScionE.cells 12 tSc base w6 (.slice A1 (keptL y.lp.entries y.lp.received y.lp.sent st.scions).length c1) (keptL y.lp.entries y.lp.received y.lp.sent st.scions) := ho1.mono (Nat.le_trans hzd (show Below wd.heap.size wd _ from below_of).size)
    have hb06 : Below base w w6 := (show Below w.heap.size w w6 from below_of).mono hb
    have hpx : w1.heap.size ≠ p := by
      have := blk_lt P1.h
      omega
    have BP6 := boxed hp6
    refine hK9.out _ _ (by exact fun i => ((BXd _).2 i).1) (fun hHeld => ?_)
    clear hK9 K9
    (try simp only [Act.put])
    refine wpAnyH_take (i := 7) (oi := _) (v := ?_) rfl (by kernel_rfl) (by kernel_rfl) (by kernel_rfl) (fun _ _ _ h => h) (Or.inl ⟨by rfl, ?_⟩) (by assumption) ?_
    rotate_left 1
    · (intro wy hSw; (try dsimp only at hSw); go_simp; try with_reducible rfl)
    (try simp only [Act.put])
    refine wpAnyH_take (i := 8) (oi := _) (v := ?_) rfl (by kernel_rfl) (by kernel_rfl) (by kernel_rfl) (fun _ _ _ h => h) (Or.inl ⟨by rfl, ?_⟩) (by assumption) ?_
    rotate_left 1
    · (intro wy hSw; (try dsimp only at hSw); go_simp; try with_reducible rfl)
    (try simp only [Act.put])
    refine wpAnyH_take (i := 9) (oi := _) (v := ?_) rfl (by kernel_rfl) (by kernel_rfl) (by kernel_rfl) (fun _ _ _ h => h) (Or.inl ⟨by rfl, ?_⟩) (by assumption) ?_
    rotate_left 1
    · (intro wy hSw; (try dsimp only at hSw); go_simp; try with_reducible rfl)
    (try simp only [Act.put])
    refine wpAnyH_take (i := 10) (oi := _) (v := ?_) rfl (by kernel_rfl) (by kernel_rfl) (by kernel_rfl) (fun _ _ _ h => h) (Or.inl ⟨by rfl, ?_⟩) (by assumption) ?_
    rotate_left 1
    · (intro wy hSw; (try dsimp only at hSw); go_simp; try with_reducible rfl)
    (try simp only [Act.put])
    refine wpAnyH_take (i := 11) (oi := _) (v := ?_) rfl (by kernel_rfl) (by kernel_rfl) (by kernel_rfl) (fun _ _ _ h => h) (Or.inl ⟨by rfl, ?_⟩) (by assumption) ?_
    rotate_left 1
    · (intro wy hSw; (try dsimp only at hSw); go_simp; try with_reducible rfl)
    (try simp only [Act.put])
    refine wpAnyH_ready (rs := [12]) (by kernel_rfl) (by simp) ?_
    refine AllReadyH.cons (o := _) rfl (fun K9 hK9 => ?_) AllReadyH.nil
    go_simp
    refine hK9.out _ _ (by exact fun i => blk_cell ((blk_far hpx _).trans (BXd _).1) i) (fun hHeld => ?_)
    clear hK9 K9
    (try simp only [Act.put])
    refine wpAnyH_done (by kernel_rfl) ?_ _
    go_upto_region 26 with fail
    refine wp_name ?_
    intro w7 hw7
    have hp7 : w7.heap[p]? = some (.cells #[.slice sA st.stubs.length sC, .slice A1 (keptL y.lp.entries y.lp.received y.lp.sent st.scions).length c1, .slice cA st.toClient.length cC, .slice oA st.toOwner.length oC, .int .i64 st.sent, .int .i64 st.got, .int .i64 st.out, .int .i64 st.inn, .int .i64 st.round, .int .i64 st.applied, .int .u64 st.next, .slice (some ⟨b2, 0, none⟩) ls.length lC] tPa (0, 0)) := by rw [← hw7]; exact (blk_set hp6 1 _).trans rfl
    have k7 : Slices base w7 (.slice sA st.stubs.length sC) (.slice A1 (keptL y.lp.entries y.lp.received y.lp.sent st.scions).length c1) (.slice cA st.toClient.length cC) (.slice oA st.toOwner.length oC) (.slice (some ⟨b2, 0, none⟩) ls.length lC) { st with scions := keptL y.lp.entries y.lp.received y.lp.sent st.scions } ls := by rw [← hw7]; exact (k6.newN ho1' hap1 hap2).setp hp6 1 _
    have bx7 : w7.heap[w1.heap.size]? = some (.cells y.lv.arr 26 (0, 0)) := by rw [← hw7]; exact (blk_far hpx _).trans (BXd w6).1
    have hb07 : Below base w w7 := by rw [← hw7]; exact hb06.setCell P.b _
    clear hw7 BP BP6 BPd BXd BX4 l6 k6 hp6
    have BP7 := boxed hp7
    have BX7 := boxed bx7
    have l77 : Later w7 w7 := Later.refl
    go_wp2_with fail
    go_end0
    rw [Hd.out]
    exact ⟨rfl, ⟨_, _, _, _, _, ls, ⟨P.b, (blk_set hp7 9 _).trans rfl, (k7.setp hp7 9 _).nums rfl rfl rfl rfl rfl⟩⟩, hb07.setCell P.b _⟩
  · have Hd := hide (show st.apply n = st by unfold PairS.apply; rw [hlp]; exact if_neg hrd)
    simp only [hrd, decide_false] at HR
    (refine wp_region_after (by kernel_rfl) (by kernel_rfl) ?_
     repeat (any_goals (first | go_big_quiet_skip | (go_big_quiet_want; go_big_quiet_op; first | go_big_quiet_on | go_big_quiet_call ((go_at_call 21; exact Calls.after (HR _)))) | quiet_step ((go_at_call 21; exact Calls.after (HR _))) | (refine wpQuiet_step (fun K hK => ?_); go_simp; split <;> (refine hK _ ?_; clear hK K))))
     all_goals (refine wpQuiet_nil ?_; intro _ hw'; obtain ⟨u', hw''⟩ := hw'; subst hw''; obtain ⟨wd, hbd⟩ := u'; simp only [After.val_mk]))
    have ld := later hbd
    go_wp2_with fail
    go_end0
    rw [Hd.out]
    exact ⟨rfl, ⟨_, _, _, _, _, ls, P4.later _⟩, (show Below w.heap.size w _ from below_of).mono hb⟩
end Go.Proofs.Ythigjlllhnajbaa

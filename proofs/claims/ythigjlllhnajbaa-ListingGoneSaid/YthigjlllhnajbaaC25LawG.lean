/-
  Contracts of the functions of this seat that each theorem names: what a call returns, and that it writes nothing that was there before. The conditions stand in each theorem.
-/
import Derived.Test.YthigjlllhnajbaaC25LawS
namespace Go.Proofs.Ythigjlllhnajbaa
open Go.RowKit
theorem got_cell {base p : Nat} {w : World} {sv nv cv ov lv : Value} {st : PairS} {ls : List LA} (P : PairAt base p w sv nv cv ov lv st ls) (i : Nat) : w.cell? ⟨p, i, none⟩ = (#[sv, nv, cv, ov, .int .i64 st.sent, .int .i64 st.got, .int .i64 st.out, .int .i64 st.inn, .int .i64 st.round, .int .i64 st.applied, .int .u64 st.next, lv] : Array Value)[i]? := blk_cell P.h i
def numAt (p i : Nat) (w : World) : Nat := match w.cell? ⟨p, i, none⟩ with | some (.int _ n) => n.toNat | _ => 0
theorem numAt_5 {base p : Nat} {w : World} {sv nv cv ov lv : Value} {st : PairS} {ls : List LA} (P : PairAt base p w sv nv cv ov lv st ls) : numAt p 5 w = st.got := by
  unfold numAt; rw [got_cell P 5]; simp
theorem numAt_7 {base p : Nat} {w : World} {sv nv cv ov lv : Value} {st : PairS} {ls : List LA} (P : PairAt base p w sv nv cv ov lv st ls) : numAt p 7 w = st.inn := by
  unfold numAt; rw [got_cell P 7]; simp
theorem take_keeps (p : PairS) (h : p.got < p.toOwner.length) : p.take.got = p.got + 1 ∧ p.take.toOwner = p.toOwner ∧ p.take.toClient = p.toClient ∧ p.take.inn = p.inn ∧ p.take.sent = p.sent ∧ p.take.out = p.out := by
  unfold PairS.take
  rw [List.getElem?_eq_getElem h]
  exact ⟨rfl, rfl, rfl, rfl, rfl, rfl⟩
theorem receive_keeps (p : PairS) (h : p.inn < p.toClient.length) : p.receive.inn = p.inn + 1 ∧ p.receive.toOwner = p.toOwner ∧ p.receive.toClient = p.toClient ∧ p.receive.got = p.got ∧ p.receive.sent = p.sent ∧ p.receive.out = p.out := by
  unfold PairS.receive
  rw [List.getElem?_eq_getElem h]
  simp only
  split <;> exact ⟨rfl, rfl, rfl, rfl, rfl, rfl⟩
set_option maxRecDepth 100000 in
set_option maxHeartbeats 8000000 in
theorem lawGone_any (A : Option Addr) (c : Nat) (ops : List OpE) (w : World) (hs : SlAt OpE.cells 2 w A ops) (hwf : ∀ x ∈ ops, 0 ≤ x.kind ∧ 0 ≤ x.n ∧ x.n < 256) (hl : ops.length ≤ 9223372036854775807) :
    Calls Try.prog 7 #[.slice A ops.length c] w fun r w' => r = .returned (.bool true) ∧ Below w.heap.size w w' := by
  have HS : ∀ u [Later w u], SlAt OpE.cells 2 u A ops := fun u i => hs.below i.below
  go_enter Try.func7, Try.ntmps7
  go_wp2_with (go_at_call 11; refine (awake_any _).mono ?_)
  rintro r w1 ⟨rfl, hb1⟩
  have l1 := later hb1
  by_cases hn : 60 < ops.length
  · have hn' : (60 : Int) < (ops.length : Int) := by omega
    go_wp2_with (go_at_call 11; refine (awake_any _).mono ?_)
    rintro r w2 ⟨rfl, hb2⟩
    have l2 := later hb2
    go_wp2_with fail
    go_ret
    exact ⟨rfl, below_of⟩
  have hn' : decide ((60 : Int) < (ops.length : Int)) = false := by simp; omega
  have hn60 : ops.length ≤ 60 := by omega
  go_upto_region 4 with fail
  refine wp_name ?_
  intro w2 hw2
  have bp : w2.heap[w1.heap.size]? = some (.cells #[.slice none 0 0, .slice none 0 0, .slice none 0 0, .slice none 0 0, .int .i64 0, .int .i64 0, .int .i64 0, .int .i64 0, .int .i64 0, .int .i64 0, .int .u64 0, .slice none 0 0] tPa (0, 0)) := by rw [← hw2]; exact heap_alloc_new _ _
  have hb12 : Below w1.heap.size w1 w2 := by rw [← hw2]; exact (by repeat (first | with_reducible exact Below.refl _ _ | (with_reducible refine Below.drew ?_) | (with_reducible refine below_drewN ?_ _) | (with_reducible refine Below.alloc ?_ ?_ _; rotate_left; (first | omega | (simp <;> omega))) | (with_reducible refine Below.setCell ?_ ?_ _; rotate_left; (first | omega | (simp <;> omega)))))
  have l2 := later hb12
  clear hw2
  have P2 : PairAt w1.heap.size w1.heap.size w2 (.slice none 0 0) (.slice none 0 0) (.slice none 0 0) (.slice none 0 0) (.slice none 0 0) ⟨[], [], [], [], 0, 0, 0, 0, 0, 0, 0, []⟩ [] :=
    ⟨Nat.le_refl _, bp, ⟨Own.nil, Own.nil, Own.nil, Own.nil, Own.nil, (fun L hL => by cases hL), Apart.nil, Apart.nil, Apart.nil, rfl⟩⟩
  have hz2 : w1.heap.size < w2.heap.size := blk_lt bp
  clear bp
  go_wp2_with fail
  go_loopw [26] (fun iv wr => ∃ (k : Nat) (sv nv cv ov lv : Value) (st : PairS) (ls : List LA), k ≤ ops.length ∧ iv = .int .i64 k ∧ PairAt w1.heap.size w1.heap.size wr sv nv cv ov lv st ls ∧ PI st ∧ PLe st k ∧ Below w1.heap.size w1 wr) (fun iv _ => ops.length - (intOf iv).toNat)
  case atStart => exact ⟨0, _, _, _, _, _, _, _, by omega, rfl, P2, PI.start, PLe.start, hb12⟩
  case round =>
    obtain ⟨k, sv, nv, cv, ov, lv, st, ls, hk, rfl, P, hpi, hle, hbr⟩ := hrel
    have lr := later hbr
    have hzr := hbr.size
    by_cases hlt : k < ops.length
    · obtain ⟨b1, o1, x, rfl, hx, C1⟩ := OpE.get (HS wr) hlt
      obtain ⟨h1, h2, h3⟩ := hwf x (List.mem_of_getElem? hx)
      obtain ⟨kn, hkn⟩ : ∃ kn : Nat, x.kind = kn := ⟨x.kind.toNat, by omega⟩
      obtain ⟨m, hm⟩ : ∃ m : Nat, x.n = m := ⟨x.n.toNat, by omega⟩
      have hm256 : m < 256 := by omega
      clear hx h1 h2 h3
      go_upto_region 7 with fail
      refine wp_name ?_
      intro w3 hw3
      have hb3 : Below wr.heap.size wr w3 := by rw [← hw3]; exact (by repeat (first | with_reducible exact Below.refl _ _ | (with_reducible refine Below.drew ?_) | (with_reducible refine below_drewN ?_ _) | (with_reducible refine Below.alloc ?_ ?_ _; rotate_left; (first | omega | (simp <;> omega))) | (with_reducible refine Below.setCell ?_ ?_ _; rotate_left; (first | omega | (simp <;> omega)))))
      obtain ⟨BX, l3⟩ := box1 hw3
      clear hw3
      have P3 := P.below hb3
      have hz3 : w1.heap.size ≤ w3.heap.size := Nat.le_trans hzr hb3.size
      have hS := step_any (k := kn) (n := m) w3 P3 hz3 hm256 (hle.mono (by omega)) hpi
      have hpi' := hpi.step kn m
      have hle' := hle.step kn m
      obtain ⟨st', hst'⟩ : ∃ st', st' = st.step kn m := ⟨_, rfl⟩
      rw [← hst'] at hS hpi' hle'
      clear hst' hpi hle P
      go_wp2_with (go_at_call 23; refine hS.mono ?_; rintro r w4 ⟨rfl, ⟨sv', nv', cv', ov', lv', ls', P4⟩, hb4⟩; have hb14 : Below w1.heap.size w1 w4 := (hbr.trans (hb3.mono hzr)).trans hb4; have l4 := later hb14; have l44 : Later w4 w4 := Later.refl)
      go_roundw
      case rel => exact ⟨k + 1, _, _, _, _, _, _, _, by omega, by go_num, P4.later _, hpi', hle', below_of⟩
      case measure => simp [intOf]; omega
    · have hk' : k = ops.length := by omega
      subst hk'
      go_upto_region 9 with fail
      have hlen := hpi.len
      have hb60 := hle.mono hn60
      have h60 : PLe st (60 + st.got) := hb60.mono (by omega)
      have ho60 := hb60.toOwner
      have hc60 := hb60.toClient
      clear hle hb60
      go_loopw [] (fun wr => ∃ (sv nv cv ov lv : Value) (st : PairS) (ls : List LA), PairAt w1.heap.size w1.heap.size wr sv nv cv ov lv st ls ∧ PI st ∧ PLe st (60 + st.got) ∧ st.toOwner.length ≤ 60 ∧ st.toClient.length ≤ 60 ∧ Below w1.heap.size w1 wr) (fun wr => 60 - numAt w1.heap.size 5 wr)
      case atStart => exact ⟨_, _, _, _, _, _, _, P, hpi, h60, ho60, hc60, hbr⟩
      case round =>
        clear P hpi h60 hlen ho60 hc60 hbr lr hzr
        obtain ⟨sv, nv, cv, ov, lv, st, ls, P, hpi, hle, ho60, hc60, hbr⟩ := hrel
        have lr := later hbr
        have hzr := hbr.size
        have hlen := hpi.len
        obtain ⟨oA, oC, rfl, -, -, -⟩ := P.k.o.slAt ScionE.enc
        have BP := boxed P.h
        by_cases hlt : st.got < st.toOwner.length
        · have hti : (st.got : Int) < (st.toOwner.length : Int) := by omega
          have hS := fun (u : World) (i : Later wr u) => step_any (k := 2) (n := 0) u (P.below i.below) (Nat.le_trans hzr i.below.size) (by omega) (hle.mono (by omega)) hpi
          have hpi' := hpi.step 2 0
          have hle' := hle.step 2 0
          have hkp := take_keeps st hlt
          have hst2 : st.step 2 0 = st.take := rfl
          rw [hst2] at hpi' hle'
          simp only [hst2] at hS
          have hg5 := hide (numAt_5 P)
          obtain ⟨st', hst'⟩ : ∃ st', st' = st.take := ⟨_, rfl⟩
          rw [← hst'] at hS hpi' hle' hkp
          have Hkp := hide hkp
          clear hst' hpi hle hkp hst2
          go_upto_region 9 with fail
          (refine wp_region_after (by kernel_rfl) (by kernel_rfl) ?_
           repeat (any_goals (first | go_big_quiet_skip | (go_big_quiet_want; go_big_quiet_op; first | go_big_quiet_on | go_big_quiet_call (fail)) | quiet_step (fail) | (refine wpQuiet_step (fun K hK => ?_); go_simp; split <;> (refine hK _ ?_; clear hK K))))
           all_goals (refine wpQuiet_nil ?_; intro _ hw'; obtain ⟨u', hw''⟩ := hw'; subst hw''; obtain ⟨wd, hbd⟩ := u'; simp only [After.val_mk]))
          have ld := later hbd
          go_wp2_with (go_at_call 23; refine (hS _ inferInstance).mono ?_; rintro r w4 ⟨rfl, ⟨sv', nv', cv', ov', lv', ls', P4⟩, hb4⟩; have hb14 : Below w1.heap.size w1 w4 := (show Below w1.heap.size w1 _ from below_of).trans hb4; have l4 := later hb14; have l44 : Later w4 w4 := Later.refl)
          go_roundw
          case rel => exact ⟨_, _, _, _, _, _, _, P4.later _, hpi', by rw [Hkp.out.1]; exact hle', by rw [Hkp.out.2.1]; exact ho60, by rw [Hkp.out.2.2.1]; exact hc60, below_of⟩
          case measure =>
            have h1 := numAt_5 (P4.later w4)
            have h2 := Hkp.out.1
            have h3 := hg5.out
            first | omega | (simp only [h1, h3]; omega) | trace_state
        · have hti : ¬ (st.got : Int) < (st.toOwner.length : Int) := by omega
          have hgs : st.got = st.sent := by omega
          go_upto_region 9 with fail
          (refine wp_region_after (by kernel_rfl) (by kernel_rfl) ?_
           repeat (any_goals (first | go_big_quiet_skip | (go_big_quiet_want; go_big_quiet_op; first | go_big_quiet_on | go_big_quiet_call (fail)) | quiet_step (fail) | (refine wpQuiet_step (fun K hK => ?_); go_simp; split <;> (refine hK _ ?_; clear hK K))))
           all_goals (refine wpQuiet_nil ?_; intro _ hw'; obtain ⟨u', hw''⟩ := hw'; subst hw''; obtain ⟨wd, hbd⟩ := u'; simp only [After.val_mk]))
          have ld := later hbd
          have h120 : PLe st (120 + st.inn) := hle.mono (by omega)
          have Pd := P.later wd
          have hbd1 : Below w1.heap.size w1 wd := below_of
          go_wp2_with fail
          clear P hle BP hbd
          go_loopw [] (fun wr => ∃ (sv nv cv ov lv : Value) (st : PairS) (ls : List LA), PairAt w1.heap.size w1.heap.size wr sv nv cv ov lv st ls ∧ PI st ∧ PLe st (120 + st.inn) ∧ st.got = st.sent ∧ st.toClient.length ≤ 60 ∧ Below w1.heap.size w1 wr) (fun wr => 60 - numAt w1.heap.size 7 wr)
          case atStart => exact ⟨_, _, _, _, _, _, _, Pd, hpi, h120, hgs, hc60, hbd1⟩
          case round =>
            clear Pd hpi h120 hgs hc60 hbd1 hbr lr hzr hlen ho60 hlt hti ld
            obtain ⟨sv, nv, cv, ov, lv, st, ls, P, hpi, hle, hgs, hc60, hbr⟩ := hrel
            have lr := later hbr
            have hzr := hbr.size
            have hlen := hpi.len
            obtain ⟨cA, cC, rfl, -, -, -⟩ := P.k.c.slAt ScionE.enc
            have BP := boxed P.h
            by_cases hlt : st.inn < st.toClient.length
            · have hti : (st.inn : Int) < (st.toClient.length : Int) := by omega
              have hS := fun (u : World) (i : Later wr u) => receive_any u (P.below i.below) (Nat.le_trans hzr i.below.size) (by omega) (Nat.le_trans hle.stubs (by omega)) (Nat.le_trans hle.toClient (by omega))
              have hpi' := hpi.receive
              have hle' : PLe st.receive (120 + st.inn + 1) := hle.step 3 0
              have hkp := receive_keeps st hlt
              have hg5 := hide (numAt_7 P)
              have Hgs := hide hgs
              obtain ⟨st', hst'⟩ : ∃ st', st' = st.receive := ⟨_, rfl⟩
              rw [← hst'] at hpi' hle' hkp
              simp only [← hst'] at hS
              have Hkp := hide hkp
              clear hst' hpi hle hkp hgs
              go_upto_region 11 with fail
              (refine wp_region_after (by kernel_rfl) (by kernel_rfl) ?_
               repeat (any_goals (first | go_big_quiet_skip | (go_big_quiet_want; go_big_quiet_op; first | go_big_quiet_on | go_big_quiet_call (fail)) | quiet_step (fail) | (refine wpQuiet_step (fun K hK => ?_); go_simp; split <;> (refine hK _ ?_; clear hK K))))
               all_goals (refine wpQuiet_nil ?_; intro _ hw'; obtain ⟨u', hw''⟩ := hw'; subst hw''; obtain ⟨wd, hbd⟩ := u'; simp only [After.val_mk]))
              have ld := later hbd
              go_wp2_with (go_at_call 24; refine (hS _ inferInstance).mono ?_; rintro r w4 ⟨rfl, ⟨sv', nv', cv', ov', lv', ls', P4⟩, hb4⟩; have hb14 : Below w1.heap.size w1 w4 := (show Below w1.heap.size w1 _ from below_of).trans hb4; have l4 := later hb14; have l44 : Later w4 w4 := Later.refl)
              go_roundw
              case rel => exact ⟨_, _, _, _, _, _, _, P4.later _, hpi', by rw [Hkp.out.1]; exact hle', by rw [Hkp.out.2.2.2.1, Hkp.out.2.2.2.2.1]; exact Hgs.out, by rw [Hkp.out.2.2.1]; exact hc60, below_of⟩
              case measure =>
                have h1 := numAt_7 (P4.later w4)
                have h2 := Hkp.out.1
                have h3 := hg5.out
                first | omega | (simp only [h1, h3]; omega) | trace_state
            · have hti : ¬ (st.inn : Int) < (st.toClient.length : Int) := by omega
              have hio : st.inn = st.out := by omega
              have hle200 : PLe st 200 := hle.mono (by omega)
              have hgone := hpi.gone hgs hio (Nat.le_trans hle200.stubs (by omega))
              have hS := fun (u : World) (i : Later wr u) => step_any (k := 6) (n := 0) u (P.below i.below) (Nat.le_trans hzr i.below.size) (by omega) (hle200.mono (by omega)) hpi
              have hst6 : st.step 6 0 = st.list := rfl
              simp only [hst6] at hS
              have hle2 : PLe st.list 201 := hle200.step 6 0
              have hlst : st.list.lists = st.lists ++ [⟨st.round + 1, st.sent, st.inn, refBuildL 2 st.stubs⟩] := rfl
              have hlst2 : st.list.stubs = st.stubs := rfl
              have hlst3 : st.list.scions = st.scions := rfl
              rw [← hlst2, ← hlst3] at hgone
              obtain ⟨E, hE⟩ : ∃ E : LP, E = ⟨st.round + 1, st.sent, st.inn, refBuildL 2 st.stubs⟩ := ⟨_, rfl⟩
              have hgE : readyP st.list E ∧ (∀ y ∈ keptL E.entries E.received E.sent st.list.scions, ∃ s ∈ st.list.stubs, s.number = y.number ∧ s.weak = y.weak) ∧ (keptL E.entries E.received E.sent st.list.scions).length = st.list.stubs.length := by rw [hE]; exact hgone
              rw [← hE] at hlst
              obtain ⟨s6, hs6⟩ : ∃ s6, s6 = st.list := ⟨_, rfl⟩
              simp only [← hs6] at hS
              rw [← hs6] at hle2 hlst hgE
              have Hl := hide hlst
              have HgE := hide hgE
              clear hgone hlst hlst2 hlst3 hE hs6 hst6 hle hle200 hpi hgE
              go_upto_region 11 with fail
              (refine wp_region_after (by kernel_rfl) (by kernel_rfl) ?_
               repeat (any_goals (first | go_big_quiet_skip | (go_big_quiet_want; go_big_quiet_op; first | go_big_quiet_on | go_big_quiet_call (fail)) | quiet_step (fail) | (refine wpQuiet_step (fun K hK => ?_); go_simp; split <;> (refine hK _ ?_; clear hK K))))
               all_goals (refine wpQuiet_nil ?_; intro _ hw'; obtain ⟨u', hw''⟩ := hw'; subst hw''; obtain ⟨wd, hbd⟩ := u'; simp only [After.val_mk]))
              have ld := later hbd
              go_wp2_with (go_at_call 23; refine (hS _ inferInstance).mono ?_)
              rintro r w4 ⟨rfl, ⟨sv', nv', cv', ov', lv', ls', P4⟩, hb4⟩
              have hb14 : Below w1.heap.size w1 w4 := (show Below w1.heap.size w1 _ from below_of).trans hb4
              have l4 := later hb14
              have l44 : Later w4 w4 := Later.refl
              clear hS P BP
              obtain ⟨sA, sC, rfl, hsc, hsm, hsS⟩ := P4.k.s.slAt StubE.enc
              obtain ⟨nA, nC, rfl, hnc, hnm, hnS⟩ := P4.k.n.slAt ScionE.enc
              obtain ⟨lA, lC, rfl, hlc, hlm, hlS⟩ := P4.k.l.slAt LA.enc
              have BP := boxed P4.h
              have hlm6 := P4.k.lp
              rw [Hl.out] at hlm6
              obtain ⟨k, y, hk, hy, hyE⟩ : ∃ (k : Nat) (y : LA), ls'.length = k + 1 ∧ ls'[k]? = some y ∧ y.lp = E := by
                have hln : ls'.length = st.lists.length + 1 := by have := congrArg List.length hlm6; simpa using this
                refine ⟨st.lists.length, ls'[st.lists.length]'(by omega), hln, List.getElem?_eq_getElem _, ?_⟩
                have := congrArg (fun l => l[st.lists.length]?) hlm6
                simpa [List.getElem?_map, List.getElem?_eq_getElem (show st.lists.length < ls'.length by omega)] using this
              have hmem := List.mem_of_getElem? hy
              obtain ⟨b2, hb2⟩ := P4.k.l.isSome (by rintro rfl; simp at hy)
              subst hb2
              have k4 := P4.k
              have Q0 : ∀ u [Later w4 u], u.cell? ⟨b2, k * 4, none⟩ = some (.int .i64 y.lp.round) := fun u i => (k4.l.below i.below).cell LA.enc hy (j := 0) rfl
              have Q1 : ∀ u [Later w4 u], u.cell? ⟨b2, k * 4 + 1, none⟩ = some (.int .i64 y.lp.sent) := fun u i => (k4.l.below i.below).cell LA.enc hy (j := 1) rfl
              have Q2 : ∀ u [Later w4 u], u.cell? ⟨b2, k * 4 + 2, none⟩ = some (.int .i64 y.lp.received) := fun u i => (k4.l.below i.below).cell LA.enc hy (j := 2) rfl
              have Q3 : ∀ u [Later w4 u], u.cell? ⟨b2, k * 4 + 3, none⟩ = some (.slice y.A y.lp.entries.length y.c) := fun u i => (k4.l.below i.below).cell LA.enc hy (j := 3) rfl
              have hk1 : ((ls'.length : Int) - 1) = (k : Int) := by omega
              have hki : (k : Int) < (ls'.length : Int) := by omega
              have hkw : IntKind.i64.wrap (k : Int) = (k : Int) := by
                have h1 := congrArg List.length P4.k.lp
                have h2 := hle2.lists
                rw [List.length_map] at h1
                rw [IntKind.wrap_i64]; omega
              have hk0 : (0 : Int) ≤ (k : Int) := by omega
              have hye : y.lp.entries.length ≤ 201 := hle2.ents _ (by rw [hyE, Hl.out]; simp)
              have hyL : ∀ u [Later w4 u], y.lv.at_ u := fun u i => ⟨((((k4.e y hmem).at_ ListedE.enc).2.2).below i.below), by simp only [LA.lv]; omega⟩
              have hrd : readyP s6 y.lp := by rw [hyE]; exact HgE.out.1
              have hkeep : (∀ x ∈ keptL y.lp.entries y.lp.received y.lp.sent s6.scions, ∃ s ∈ s6.stubs, s.number = x.number ∧ s.weak = x.weak) ∧ (keptL y.lp.entries y.lp.received y.lp.sent s6.scions).length = s6.stubs.length := by rw [hyE]; exact HgE.out.2
              have HR : ∀ u [Later w4 u], Calls Try.prog 21 #[y.lv.v, .int .i64 s6.applied, .int .i64 s6.got] u fun r w' => r = .returned (.bool true) ∧ Below u.heap.size u w' := fun u i => by
                have := ready_any y.lv s6.applied s6.got u (hyL u)
                rw [ready_eq, decide_eq_true hrd] at this
                exact this
              have HS6 : ∀ u [Later w4 u], SlAt StubE.cells 12 u sA s6.stubs := fun u i => hsS.below i.below
              have hnl := hle2.scions
              have hsl := hle2.stubs
              have Hkeep := hide hkeep
              have Hyy := hide hy
              clear hk hy hyE hlm6 HgE Hl hle2 hrd hkeep hlS
              go_upto_region 14 with fail
              go_region_held3 (fun w' => ∀ b [Later b w4], Later b w') ((intro b _; infer_instance)) (fail)
              go_upto_region 15 with fail
              refine wp_name ?_
              intro w7 hw7
              have bx7 : w7.heap[w4.heap.size]? = some (.cells y.lv.arr 26 (0, 0)) := by rw [← hw7]; exact heap_alloc_new _ _
              have hb47 : Below w4.heap.size w4 w7 := by rw [← hw7]; exact (by repeat (first | with_reducible exact Below.refl _ _ | (with_reducible refine Below.drew ?_) | (with_reducible refine below_drewN ?_ _) | (with_reducible refine Below.alloc ?_ ?_ _; rotate_left; (first | omega | (simp <;> omega))) | (with_reducible refine Below.setCell ?_ ?_ _; rotate_left; (first | omega | (simp <;> omega)))))
              have l7 := later hb47
              clear hw7 Q0 Q1 Q2 Q3
              have BX7 := boxed bx7
              have l77 : Later w7 w7 := Later.refl
              (refine wp_region_after (by kernel_rfl) (by kernel_rfl) ?_
               repeat (any_goals (first | go_big_quiet_skip | (go_big_quiet_want; go_big_quiet_op; first | go_big_quiet_on | go_big_quiet_call ((go_at_call 21; exact Calls.after (HR _)))) | quiet_step ((go_at_call 21; exact Calls.after (HR _))) | (refine wpQuiet_step (fun K hK => ?_); go_simp; split <;> (refine hK _ ?_; clear hK K))))
               all_goals (refine wpQuiet_nil ?_; intro _ hw'; obtain ⟨u', hw''⟩ := hw'; subst hw''; obtain ⟨wd, hbd⟩ := u'; simp only [After.val_mk]))
              have ld := later hbd
              go_upto_region 17 with fail
              go_region_held3 (fun w' => ∀ b [Later b wd], Later b w') ((intro b _; infer_instance)) ((go_at_call 16; refine (apply_any nA nC s6.scions y.lv _ (hnS.below below_of) (hyL _) (by omega)).mono ?_; rintro r w8 ⟨v1, v2, rfl, ho1, ho2, hb8⟩; obtain ⟨A1, c1, rfl, -, -, hs1⟩ := ho1.slAt ScionE.enc; obtain ⟨A2, c2, rfl, -, -, -⟩ := ho2.slAt ScionE.enc; have l8 := later hb8))
              obtain ⟨K, hK⟩ : ∃ K, K = keptL y.lv.entries y.lv.received y.lv.sent s6.scions := ⟨_, rfl⟩
              rw [← hK] at hs1 ⊢
              have hKk : (∀ x ∈ K, ∃ s ∈ s6.stubs, s.number = x.number ∧ s.weak = x.weak) ∧ K.length = s6.stubs.length := by rw [hK]; exact Hkeep.out
              obtain ⟨hKm, hKl⟩ := hKk
              have HKl := hide hKl
              have HKm := hide hKm
              have hK200 : K.length ≤ 201 := by omega
              have HK : ∀ u [Later w8 u], SlAt ScionE.cells 12 u A1 K := fun u i => hs1.below i.below
              have l88 : Later w8 w8 := Later.refl
              clear hK hKl hKm Hkeep ho1 ho2 hs1 hb8 HR hyL
              go_wp2_with fail
              go_loopw [96] (fun iv wr => ∃ k : Nat, k ≤ K.length ∧ iv = .int .i64 k ∧ Below w8.heap.size w8 wr) (fun iv _ => K.length - (intOf iv).toNat)
              case atStart => exact ⟨0, by omega, rfl, Below.refl _ _⟩
              case round =>
                obtain ⟨k, hk, rfl, hbr8⟩ := hrel
                have lr8 := later hbr8
                by_cases hlt8 : k < K.length
                · obtain ⟨b3, o3, x, rfl, hx, C3⟩ := ScionE.get (HK wr) hlt8
                  have hmx := hide (HKm.out x (List.mem_of_getElem? hx))
                  have hkx : (k : Int) < (K.length : Int) := by omega
                  clear hx
                  go_upto_region 21 with fail
                  refine wp_name ?_
                  intro w9 hw9
                  obtain ⟨B9, l9⟩ := box1 hw9
                  clear hw9
                  have l99 : Later w9 w9 := Later.refl
                  go_wp2_with fail
                  go_loopw [11, 105] (fun fv jv wi => ∃ j : Nat, j ≤ s6.stubs.length ∧ jv = .int .i64 j ∧ fv = .bool ((s6.stubs.take j).any (fun s => s.number == x.number && s.weak == x.weak)) ∧ Below w9.heap.size w9 wi) (fun _ jv _ => s6.stubs.length - (intOf jv).toNat)
                  case atStart => exact ⟨0, by omega, rfl, rfl, Below.refl _ _⟩
                  case round =>
                    obtain ⟨j, hj, rfl, rfl, hbi⟩ := hrel
                    have li := later hbi
                    by_cases hltj : j < s6.stubs.length
                    · obtain ⟨b4, o4, s, rfl, hs4, C4⟩ := StubE.get (HS6 wr) hltj
                      have hji : (j : Int) < (s6.stubs.length : Int) := by omega
                      have HX := hide (any_take (p := fun s : StubE => s.number == x.number && s.weak == x.weak) hs4)
                      clear hs4
                      cases hf : (s6.stubs.take j).any (fun s => s.number == x.number && s.weak == x.weak)
                      · by_cases hxy : s.number = x.number
                        · have hb : (s.number == x.number) = true := by simp [hxy]
                          go_wp2_with fail
                          go_roundw
                          case rel => exact ⟨j + 1, by omega, by go_num, by rw [HX.out, hf]; simp [hxy], below_of⟩
                          case measure => simp [intOf]; omega
                        · have hb : (s.number == x.number) = false := by simp [hxy]
                          go_wp2_with fail
                          go_roundw
                          case rel => exact ⟨j + 1, by omega, by go_num, by rw [HX.out, hf]; simp [hxy], below_of⟩
                          case measure => simp [intOf]; omega
                      · go_wp2_with fail
                        go_roundw
                        case rel => exact ⟨j + 1, by omega, by go_num, by rw [HX.out, hf]; rfl, below_of⟩
                        case measure => simp [intOf]; omega
                    · have hj' : j = s6.stubs.length := by omega
                      subst hj'
                      rw [List.take_length]
                      have hany : s6.stubs.any (fun s => s.number == x.number && s.weak == x.weak) = true := by
                        obtain ⟨s, hs, e1, e2⟩ := hmx.out
                        exact List.any_eq_true.2 ⟨s, hs, by simp [e1, e2]⟩
                      rw [hany]
                      clear hany
                      go_wp2_with fail
                      go_roundw
                      case rel => exact ⟨k + 1, by omega, by go_num, below_of⟩
                      case measure => simp [intOf]; omega
                · have hk' : k = K.length := by omega
                  subst hk'
                  have BPr := P4.later wr
                  go_wp2_with fail
                  go_ret
                  exact ⟨ret_bool (by simp [HKl.out]), below_of⟩
end Go.Proofs.Ythigjlllhnajbaa

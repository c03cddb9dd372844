/-
  Contracts of the functions of this seat that each theorem names: what a call returns, and that it writes nothing that was there before. The conditions stand in each theorem.
-/
import Derived.Test.YtnjpmpelgigmjaaC34Walk7
import Derived.Test.YtnjpmpelgigmjaaLib3
namespace Go.Proofs.Ytnjpmpelgigmjaa
open Go.RowKit
attribute [local go_sem ↓] run_eql_trace run_neq_trace

def StubE.rel (b : Bool) (t : TraceE) (e : StubE) : StubE := if teq e.lockMachine e.lockSerial t.machine t.serial then { e with lockMachine := 0, lockSerial := 0, dead := e.dead || b } else e
def ScionE.rel (b : Bool) (t : TraceE) (e : ScionE) : ScionE := if teq e.lockMachine e.lockSerial t.machine t.serial then { e with lockMachine := 0, lockSerial := 0, garbage := e.garbage || b } else e
def relStubs (b : Bool) (t : TraceE) (l : List StubE) : List StubE := if teq t.machine t.serial 0 0 then l else l.map (StubE.rel b t)
def relScions (b : Bool) (t : TraceE) (l : List ScionE) : List ScionE := if teq t.machine t.serial 0 0 then l else l.map (ScionE.rel b t)

set_option maxHeartbeats 400000 in
theorem lock_any (c : ClaimV) (t : TraceE) (sA : Option Addr) (sC : Nat) (stubs : List StubE) (nA : Option Addr) (nC : Nat) (scions : List ScionE) (w : World)
    (hc : c.at_ w) (hs : SlAt StubE.cells 12 w sA stubs) (hn : SlAt ScionE.cells 12 w nA scions) (hsl : stubs.length ≤ 100000000) (hnl : scions.length ≤ 100000000) :
    Calls Try.prog 21 #[c.v, t.v, .slice sA stubs.length sC, .slice nA scions.length nC] w
      fun r w' => ∃ v1 v2, r = .returned (.tuple #[v1, v2]) ∧ Own StubE.cells 12 42 w.heap.size w' v1 (lockStubs t c.stubs stubs) ∧ Own ScionE.cells 12 45 w.heap.size w' v2 (lockScions t c.scions scions) ∧ Below w.heap.size w w' := by
  go_enter Try.func21, Try.ntmps21
  go_wp2_with fail
  refine (changeStub_any c.sA c.sC c.stubs sA sC stubs t (w.heap.size + 1) _ (hc.s.below (by repeat (first | with_reducible exact Below.refl _ _ | (with_reducible refine Below.drew ?_) | (with_reducible refine below_drewN ?_ _) | (with_reducible refine Below.alloc ?_ ?_ _; rotate_left; (first | omega | (simp <;> omega))) | (with_reducible refine Below.setCell ?_ ?_ _; rotate_left; (first | omega | (simp <;> omega)))))) hc.sl (hs.below (by repeat (first | with_reducible exact Below.refl _ _ | (with_reducible refine Below.drew ?_) | (with_reducible refine below_drewN ?_ _) | (with_reducible refine Below.alloc ?_ ?_ _; rotate_left; (first | omega | (simp <;> omega))) | (with_reducible refine Below.setCell ?_ ?_ _; rotate_left; (first | omega | (simp <;> omega)))))) hsl (by simp) (by simp)).mono ?_
  rintro r w1 ⟨v1, rfl, ho1, hb1⟩
  have hb1' : Below w.heap.size w w1 := (Below.trans (by repeat (first | with_reducible exact Below.refl _ _ | (with_reducible refine Below.drew ?_) | (with_reducible refine below_drewN ?_ _) | (with_reducible refine Below.alloc ?_ ?_ _; rotate_left; (first | omega | (simp <;> omega))) | (with_reducible refine Below.setCell ?_ ?_ _; rotate_left; (first | omega | (simp <;> omega))))) (hb1.mono (by first | omega | (simp <;> omega))))
  have z3 : w1.cell? ⟨w.heap.size, 3, none⟩ = some (.slice c.nA c.scions.length c.nC) := cell_below (by simp) hb1
  have t0 : w1.cell? ⟨w.heap.size + 1, 0, none⟩ = some (.int .i64 t.machine) := cell_below (by simp) hb1
  have t1 : w1.cell? ⟨w.heap.size + 1, 1, none⟩ = some (.int .i64 t.serial) := cell_below (by simp) hb1
  have hlt := World.block_lt_of_cell? w1 _ t0
  simp only at hlt
  go_wp2_with fail
  refine (changeScion_any c.nA c.nC c.scions nA nC scions t (w.heap.size + 1) _ (hc.n.below hb1') hc.nl (hn.below hb1') hnl t0 t1).mono ?_
  rintro r w2 ⟨v2, rfl, ho2, hb2⟩
  go_wp2_with fail
  go_ret2
  exact ⟨v1, v2, rfl, (ho1.below hb2).mono (by simp; omega), ho2.mono hb1'.size, hb1'.trans (hb2.mono hb1'.size)⟩

set_option maxHeartbeats 1600000 in
theorem release_any (b : Bool) (t : TraceE) (sA : Option Addr) (sC : Nat) (stubs : List StubE) (nA : Option Addr) (nC : Nat) (scions : List ScionE) (w : World)
    (hs : SlAt StubE.cells 12 w sA stubs) (hn : SlAt ScionE.cells 12 w nA scions) (hsl : stubs.length ≤ 100000000) (hnl : scions.length ≤ 100000000) :
    Calls Try.prog 33 #[.bool b, t.v, .slice sA stubs.length sC, .slice nA scions.length nC] w
      fun r w' => ∃ v1 v2, r = .returned (.tuple #[v1, v2]) ∧ Own StubE.cells 12 42 w.heap.size w' v1 (relStubs b t stubs) ∧ Own ScionE.cells 12 45 w.heap.size w' v2 (relScions b t scions) ∧ Below w.heap.size w w' := by
  go_enter Try.func33, Try.ntmps33
  go_wp2_with fail
  refine (cloneStub_any sA sC stubs _ (hs.below (by repeat (first | with_reducible exact Below.refl _ _ | (with_reducible refine Below.drew ?_) | (with_reducible refine below_drewN ?_ _) | (with_reducible refine Below.alloc ?_ ?_ _; rotate_left; (first | omega | (simp <;> omega))) | (with_reducible refine Below.setCell ?_ ?_ _; rotate_left; (first | omega | (simp <;> omega)))))) hsl).mono ?_
  rintro r w1 ⟨v1, rfl, ho1, hb1⟩
  have hb1' : Below w.heap.size w w1 := (Below.trans (by repeat (first | with_reducible exact Below.refl _ _ | (with_reducible refine Below.drew ?_) | (with_reducible refine below_drewN ?_ _) | (with_reducible refine Below.alloc ?_ ?_ _; rotate_left; (first | omega | (simp <;> omega))) | (with_reducible refine Below.setCell ?_ ?_ _; rotate_left; (first | omega | (simp <;> omega))))) (hb1.mono (by first | omega | (simp <;> omega))))
  have hw1 : w.heap.size + 1 ≤ w1.heap.size := by have := hb1.size; simpa using this
  have t0 : w1.cell? ⟨w.heap.size, 0, none⟩ = some (.int .i64 t.machine) := cell_below (by simp) hb1
  have t1 : w1.cell? ⟨w.heap.size, 1, none⟩ = some (.int .i64 t.serial) := cell_below (by simp) hb1
  simp only [World.size_alloc] at ho1
  have hA1 := hide (fun g (h : v1.ownBlock = some g) => (World.ownsRow.lt ho1 g h).2)
  go_wp2_with fail
  refine (cloneScion_any nA nC scions _ (hn.below hb1') hnl).mono ?_
  rintro r w2 ⟨v2, rfl, ho2, hb2⟩
  have hb2' : Below w.heap.size w w2 := hb1'.trans (hb2.mono hb1'.size)
  have T0 := cell_below t0 hb2
  have T1 := cell_below t1 hb2
  have Ho1 := ho1.below hb2
  clear t0 t1 hb1 ho1 hs hn
  by_cases h0 : teq t.machine t.serial 0 0 = true
  · have H1 := hide (show relStubs b t stubs = stubs by simp [relStubs, h0])
    have H2 := hide (show relScions b t scions = scions by simp [relScions, h0])
    go_wp2_with fail
    go_ret2
    exact ⟨v1, v2, rfl, by rw [H1.out]; exact Ho1.mono (by omega), by rw [H2.out]; exact ho2.mono (by omega), hb2'⟩
  have H1 := hide (show relStubs b t stubs = stubs.map (StubE.rel b t) by simp [relStubs, h0])
  have H2 := hide (show relScions b t scions = scions.map (ScionE.rel b t) by simp [relScions, h0])
  obtain ⟨aA, aC, rfl, haC, -, -⟩ := Ho1.slAt StubE.enc
  obtain ⟨bA, bC, rfl, hbC, -, -⟩ := ho2.slAt ScionE.enc
  go_wp2_with fail
  go_loopw [12, 13, 27] (fun _ _ i wr => ∃ k : Nat, k ≤ stubs.length ∧ i = .int .i64 k ∧ Own StubE.cells 12 42 (w.heap.size + 1) wr (.slice aA stubs.length aC) (mapTo (StubE.rel b t) stubs k) ∧
      Own ScionE.cells 12 45 w1.heap.size wr (.slice bA scions.length bC) scions ∧ Below (w.heap.size + 1) w2 wr) (fun _ _ i _ => stubs.length - (intOf i).toNat)
  case atStart => exact ⟨0, by omega, rfl, by rw [mapTo_zero]; exact Ho1, ho2, Below.refl _ _⟩
  case round =>
    obtain ⟨k, hk, rfl, hown, hob, hb⟩ := hrel
    have Y0 : wr.cell? ⟨w.heap.size, 0, none⟩ = some (.int .i64 t.machine) := (hb.cell (p := ⟨w.heap.size, 0, none⟩) (by simp)).trans T0
    have Y1 : wr.cell? ⟨w.heap.size, 1, none⟩ = some (.int .i64 t.serial) := (hb.cell (p := ⟨w.heap.size, 1, none⟩) (by simp)).trans T1
    have hws := hb.size
    have hws2 := hb2.size
    by_cases hlt : k < stubs.length
    · obtain ⟨x, hx⟩ : ∃ x, stubs[k]? = some x := ⟨_, List.getElem?_eq_getElem hlt⟩
      have hxk := mapTo_get (F := StubE.rel b t) hx
      obtain ⟨g, rfl⟩ := hown.isSome (by intro h; rw [h] at hxk; simp at hxk)
      have hg := hown.base_le
      have hgl := hown.lt
      have hg1 := hA1.out g rfl
      have c9 := After.cell (hown.cell StubE.enc hxk (j := 9) rfl)
      have c10 := After.cell (hown.cell StubE.enc hxk (j := 10) rfl)
      have c11 := After.cell (hown.cell StubE.enc hxk (j := 11) rfl)
      have y0 := After.cell Y0
      have y1 := After.cell Y1
      have Hx := hide hx
      have Hxk := hide hxk
      clear hx hxk hA1 T0 T1 Y0 Y1 ho2 Ho1
      by_cases ht : teq x.lockMachine x.lockSerial t.machine t.serial = true
      · go_wp2_with fail
        (refine wp_region_after (by kernel_rfl) (by kernel_rfl) ?_
         repeat (any_goals (first | go_big_quiet_skip | (go_big_quiet_want; go_big_quiet_op; first | go_big_quiet_on | go_big_quiet_call (fail)) | quiet_step (fail) | (refine wpQuiet_step (fun K hK => ?_); go_simp; split <;> (refine hK _ ?_; clear hK K))))
         all_goals (refine wpQuiet_nil ?_; intro _ hw'; obtain ⟨u', hw''⟩ := hw'; subst hw''; obtain ⟨wd, hbd⟩ := u'; simp only [After.val_mk]))
        have ho := hown.below hbd
        have hob' := hob.below hbd
        have hgb : (Value.slice bA scions.length bC).ownBlock ≠ some g := fun e => by have := (World.ownsRow.lt hob g e).1; omega
        have hbw : Below (w.heap.size + 1) w2 wd := hb.trans (hbd.mono (by omega))
        have d9 := ho.cell StubE.enc Hxk.out (j := 9) rfl
        have d10 := ho.cell StubE.enc Hxk.out (j := 10) rfl
        have d11 := ho.cell StubE.enc Hxk.out (j := 11) rfl
        have z9 := ho.free (k * 12 + 9)
        have z10 := ho.free (k * 12 + 10)
        have z11 := ho.free (k * 12 + 11)
        have hkl := (List.getElem?_eq_some_iff.1 Hxk.out).1
        have hkl' := hide hkl
        have s1 := ho.store StubE.enc (j := 10) (u := .int .i64 0) (x' := { x with lockMachine := 0 }) Hxk.out (by omega) rfl
        have s2 := s1.store StubE.enc (j := 11) (u := .int .i64 0) (x' := { x with lockMachine := 0, lockSerial := 0 }) (List.getElem?_set_self hkl) (by omega) rfl
        have s3 := s2.store StubE.enc (j := 9) (u := .bool (x.dead || b)) (x' := StubE.rel b t x) (List.getElem?_set_self (by simpa using hkl)) (by omega) (by simp [StubE.rel, ht, StubE.cells])
        rw [List.set_set, List.set_set, mapTo_set Hx.out] at s3
        have S3 := hide s3
        clear s1 s2 s3 c9 c10 c11 y0 y1 hkl
        cases hd : x.dead
        all_goals
          rw [hd] at S3
          simp only [Bool.false_or, Bool.true_or] at S3
          go_wp2_with fail
          go_roundw
          case rel => exact ⟨k + 1, by omega, by go_num, S3.out, ((hob'.far (p := ⟨g, k * 12 + 10, none⟩) hgb _).far (p := ⟨g, k * 12 + 10 + 1, none⟩) hgb _).far (p := ⟨g, k * 12 + 9, none⟩) hgb _, Below.setCell (p := ⟨g, k * 12 + 9, none⟩) (Below.setCell (p := ⟨g, k * 12 + 10 + 1, none⟩) (Below.setCell (p := ⟨g, k * 12 + 10, none⟩) hbw hg _) hg _) hg _⟩
          case measure => simp [intOf]; omega
      · have Hm := hide (mapTo_same (F := StubE.rel b t) Hx.out (by simp [StubE.rel, ht]))
        have htf : teq x.lockMachine x.lockSerial t.machine t.serial = false := by simpa using ht
        clear ht
        go_wp2_with fail
        (refine wp_region_after (by kernel_rfl) (by kernel_rfl) ?_
         repeat (any_goals (first | go_big_quiet_skip | (go_big_quiet_want; go_big_quiet_op; first | go_big_quiet_on | go_big_quiet_call (fail)) | quiet_step (fail) | (refine wpQuiet_step (fun K hK => ?_); go_simp; split <;> (refine hK _ ?_; clear hK K))))
         all_goals (refine wpQuiet_nil ?_; intro _ hw'; obtain ⟨u', hw''⟩ := hw'; subst hw''; obtain ⟨wd, hbd⟩ := u'; simp only [After.val_mk]))
        go_wp2_with fail
        go_roundw
        case rel => exact ⟨k + 1, by omega, by go_num, by rw [Hm.out]; exact hown.below hbd, hob.below hbd, hb.trans (hbd.mono (by omega))⟩
        case measure => simp [intOf]; omega
    · have hk' : k = stubs.length := by omega
      subst hk'
      rw [mapTo_all, ← H1.out] at hown
      clear hlt hk
      go_wp2_with fail
      clear T0 T1 ho2 Ho1
      obtain ⟨w3, rfl⟩ : ∃ w3, w3 = wr := ⟨_, rfl⟩
      have hownA := hown
      have hownb := hob
      have T0' := Y0
      have T1' := Y1
      have hb3 : Below w.heap.size w w3 := hb2'.trans (hb.mono (by omega))
      clear hown hob hb Y0 Y1
      go_loopw [14, 15, 56] (fun _ _ i wr => ∃ k : Nat, k ≤ scions.length ∧ i = .int .i64 k ∧ Own ScionE.cells 12 45 w1.heap.size wr (.slice bA scions.length bC) (mapTo (ScionE.rel b t) scions k) ∧
          Own StubE.cells 12 42 (w.heap.size + 1) wr (.slice aA stubs.length aC) (relStubs b t stubs) ∧ Below (w.heap.size + 1) w3 wr) (fun _ _ i _ => scions.length - (intOf i).toNat)
      case atStart => exact ⟨0, by omega, rfl, by rw [mapTo_zero]; exact hownb, hownA, Below.refl _ _⟩
      case round =>
        obtain ⟨k, hk, rfl, hown, hob, hb⟩ := hrel
        have Y0 : wr.cell? ⟨w.heap.size, 0, none⟩ = some (.int .i64 t.machine) := (hb.cell (p := ⟨w.heap.size, 0, none⟩) (by simp)).trans T0'
        have Y1 : wr.cell? ⟨w.heap.size, 1, none⟩ = some (.int .i64 t.serial) := (hb.cell (p := ⟨w.heap.size, 1, none⟩) (by simp)).trans T1'
        have hws3 := hb.size
        by_cases hlt : k < scions.length
        · obtain ⟨x, hx⟩ : ∃ x, scions[k]? = some x := ⟨_, List.getElem?_eq_getElem hlt⟩
          have hxk := mapTo_get (F := ScionE.rel b t) hx
          obtain ⟨g, rfl⟩ := hown.isSome (by intro h; rw [h] at hxk; simp at hxk)
          have hg := hown.base_le
          have hgl := hown.lt
          have hg' : w.heap.size + 1 ≤ g := by omega
          have c9 := After.cell (hown.cell ScionE.enc hxk (j := 9) rfl)
          have c10 := After.cell (hown.cell ScionE.enc hxk (j := 10) rfl)
          have c11 := After.cell (hown.cell ScionE.enc hxk (j := 11) rfl)
          have y0 := After.cell Y0
          have y1 := After.cell Y1
          have Hx := hide hx
          have Hxk := hide hxk
          clear hx hxk T0' T1' Y0 Y1 hownb hownA
          by_cases ht : teq x.lockMachine x.lockSerial t.machine t.serial = true
          · go_wp2_with fail
            (refine wp_region_after (by kernel_rfl) (by kernel_rfl) ?_
             repeat (any_goals (first | go_big_quiet_skip | (go_big_quiet_want; go_big_quiet_op; first | go_big_quiet_on | go_big_quiet_call (fail)) | quiet_step (fail) | (refine wpQuiet_step (fun K hK => ?_); go_simp; split <;> (refine hK _ ?_; clear hK K))))
             all_goals (refine wpQuiet_nil ?_; intro _ hw'; obtain ⟨u', hw''⟩ := hw'; subst hw''; obtain ⟨wd, hbd⟩ := u'; simp only [After.val_mk]))
            have ho := hown.below hbd
            have hob' := hob.below hbd
            have hgb : (Value.slice aA stubs.length aC).ownBlock ≠ some g := fun e => by have := hA1.out g e; omega
            have hbw : Below (w.heap.size + 1) w3 wd := hb.trans (hbd.mono (by omega))
            have d9 := ho.cell ScionE.enc Hxk.out (j := 9) rfl
            have d10 := ho.cell ScionE.enc Hxk.out (j := 10) rfl
            have d11 := ho.cell ScionE.enc Hxk.out (j := 11) rfl
            have z9 := ho.free (k * 12 + 9)
            have z10 := ho.free (k * 12 + 10)
            have z11 := ho.free (k * 12 + 11)
            have hkl := (List.getElem?_eq_some_iff.1 Hxk.out).1
            have hkl' := hide hkl
            have s1 := ho.store ScionE.enc (j := 10) (u := .int .i64 0) (x' := { x with lockMachine := 0 }) Hxk.out (by omega) rfl
            have s2 := s1.store ScionE.enc (j := 11) (u := .int .i64 0) (x' := { x with lockMachine := 0, lockSerial := 0 }) (List.getElem?_set_self hkl) (by omega) rfl
            have s3 := s2.store ScionE.enc (j := 9) (u := .bool (x.garbage || b)) (x' := ScionE.rel b t x) (List.getElem?_set_self (by simpa using hkl)) (by omega) (by simp [ScionE.rel, ht, ScionE.cells])
            rw [List.set_set, List.set_set, mapTo_set Hx.out] at s3
            have S3 := hide s3
            clear s1 s2 s3 c9 c10 c11 y0 y1 hkl
            cases hd : x.garbage
            all_goals
              rw [hd] at S3
              simp only [Bool.false_or, Bool.true_or] at S3
              go_wp2_with fail
              go_roundw
              case rel => exact ⟨k + 1, by omega, by go_num, S3.out, ((hob'.far (p := ⟨g, k * 12 + 10, none⟩) hgb _).far (p := ⟨g, k * 12 + 10 + 1, none⟩) hgb _).far (p := ⟨g, k * 12 + 9, none⟩) hgb _, Below.setCell (p := ⟨g, k * 12 + 9, none⟩) (Below.setCell (p := ⟨g, k * 12 + 10 + 1, none⟩) (Below.setCell (p := ⟨g, k * 12 + 10, none⟩) hbw hg' _) hg' _) hg' _⟩
              case measure => simp [intOf]; omega
          · have Hm := hide (mapTo_same (F := ScionE.rel b t) Hx.out (by simp [ScionE.rel, ht]))
            have htf : teq x.lockMachine x.lockSerial t.machine t.serial = false := by simpa using ht
            clear ht
            go_wp2_with fail
            (refine wp_region_after (by kernel_rfl) (by kernel_rfl) ?_
             repeat (any_goals (first | go_big_quiet_skip | (go_big_quiet_want; go_big_quiet_op; first | go_big_quiet_on | go_big_quiet_call (fail)) | quiet_step (fail) | (refine wpQuiet_step (fun K hK => ?_); go_simp; split <;> (refine hK _ ?_; clear hK K))))
             all_goals (refine wpQuiet_nil ?_; intro _ hw'; obtain ⟨u', hw''⟩ := hw'; subst hw''; obtain ⟨wd, hbd⟩ := u'; simp only [After.val_mk]))
            go_wp2_with fail
            go_roundw
            case rel => exact ⟨k + 1, by omega, by go_num, by rw [Hm.out]; exact hown.below hbd, hob.below hbd, hb.trans (hbd.mono (by omega))⟩
            case measure => simp [intOf]; omega
        · have hk' : k = scions.length := by omega
          subst hk'
          rw [mapTo_all, ← H2.out] at hown
          clear hlt hk
          go_wp2_with fail
          go_ret2
          exact ⟨_, _, rfl, hob.mono (by omega), hown.mono (by omega), hb3.trans (hb.mono (by omega))⟩

set_option maxHeartbeats 400000 in
theorem commit_any (t : TraceE) (sA : Option Addr) (sC : Nat) (stubs : List StubE) (nA : Option Addr) (nC : Nat) (scions : List ScionE) (w : World)
    (hs : SlAt StubE.cells 12 w sA stubs) (hn : SlAt ScionE.cells 12 w nA scions) (hsl : stubs.length ≤ 100000000) (hnl : scions.length ≤ 100000000) :
    Calls Try.prog 18 #[t.v, .slice sA stubs.length sC, .slice nA scions.length nC] w
      fun r w' => ∃ v1 v2, r = .returned (.tuple #[v1, v2]) ∧ Own StubE.cells 12 42 w.heap.size w' v1 (relStubs true t stubs) ∧ Own ScionE.cells 12 45 w.heap.size w' v2 (relScions true t scions) ∧ Below w.heap.size w w' := by
  go_enter Try.func18, Try.ntmps18
  go_wp2_with fail
  refine (release_any true t sA sC stubs nA nC scions _ (hs.below (by repeat (first | with_reducible exact Below.refl _ _ | (with_reducible refine Below.drew ?_) | (with_reducible refine below_drewN ?_ _) | (with_reducible refine Below.alloc ?_ ?_ _; rotate_left; (first | omega | (simp <;> omega))) | (with_reducible refine Below.setCell ?_ ?_ _; rotate_left; (first | omega | (simp <;> omega)))))) (hn.below (by repeat (first | with_reducible exact Below.refl _ _ | (with_reducible refine Below.drew ?_) | (with_reducible refine below_drewN ?_ _) | (with_reducible refine Below.alloc ?_ ?_ _; rotate_left; (first | omega | (simp <;> omega))) | (with_reducible refine Below.setCell ?_ ?_ _; rotate_left; (first | omega | (simp <;> omega)))))) hsl hnl).mono ?_
  rintro r w1 ⟨v1, v2, rfl, ho1, ho2, hb⟩
  go_wp2_with fail
  go_ret2
  exact ⟨v1, v2, rfl, ho1.mono (by simp), ho2.mono (by simp), (Below.trans (by repeat (first | with_reducible exact Below.refl _ _ | (with_reducible refine Below.drew ?_) | (with_reducible refine below_drewN ?_ _) | (with_reducible refine Below.alloc ?_ ?_ _; rotate_left; (first | omega | (simp <;> omega))) | (with_reducible refine Below.setCell ?_ ?_ _; rotate_left; (first | omega | (simp <;> omega))))) (hb.mono (by first | omega | (simp <;> omega))))⟩

set_option maxHeartbeats 400000 in
theorem abort_any (t : TraceE) (sA : Option Addr) (sC : Nat) (stubs : List StubE) (nA : Option Addr) (nC : Nat) (scions : List ScionE) (w : World)
    (hs : SlAt StubE.cells 12 w sA stubs) (hn : SlAt ScionE.cells 12 w nA scions) (hsl : stubs.length ≤ 100000000) (hnl : scions.length ≤ 100000000) :
    Calls Try.prog 19 #[t.v, .slice sA stubs.length sC, .slice nA scions.length nC] w
      fun r w' => ∃ v1 v2, r = .returned (.tuple #[v1, v2]) ∧ Own StubE.cells 12 42 w.heap.size w' v1 (relStubs false t stubs) ∧ Own ScionE.cells 12 45 w.heap.size w' v2 (relScions false t scions) ∧ Below w.heap.size w w' := by
  go_enter Try.func19, Try.ntmps19
  go_wp2_with fail
  refine (release_any false t sA sC stubs nA nC scions _ (hs.below (by repeat (first | with_reducible exact Below.refl _ _ | (with_reducible refine Below.drew ?_) | (with_reducible refine below_drewN ?_ _) | (with_reducible refine Below.alloc ?_ ?_ _; rotate_left; (first | omega | (simp <;> omega))) | (with_reducible refine Below.setCell ?_ ?_ _; rotate_left; (first | omega | (simp <;> omega)))))) (hn.below (by repeat (first | with_reducible exact Below.refl _ _ | (with_reducible refine Below.drew ?_) | (with_reducible refine below_drewN ?_ _) | (with_reducible refine Below.alloc ?_ ?_ _; rotate_left; (first | omega | (simp <;> omega))) | (with_reducible refine Below.setCell ?_ ?_ _; rotate_left; (first | omega | (simp <;> omega)))))) hsl hnl).mono ?_
  rintro r w1 ⟨v1, v2, rfl, ho1, ho2, hb⟩
  go_wp2_with fail
  go_ret2
  exact ⟨v1, v2, rfl, ho1.mono (by simp), ho2.mono (by simp), (Below.trans (by repeat (first | with_reducible exact Below.refl _ _ | (with_reducible refine Below.drew ?_) | (with_reducible refine below_drewN ?_ _) | (with_reducible refine Below.alloc ?_ ?_ _; rotate_left; (first | omega | (simp <;> omega))) | (with_reducible refine Below.setCell ?_ ?_ _; rotate_left; (first | omega | (simp <;> omega))))) (hb.mono (by first | omega | (simp <;> omega))))⟩
end Go.Proofs.Ytnjpmpelgigmjaa

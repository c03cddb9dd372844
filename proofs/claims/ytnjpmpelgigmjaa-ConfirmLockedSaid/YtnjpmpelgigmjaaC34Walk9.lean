/-
  Contracts of the functions of this seat that each theorem names: what a call returns, and that it writes nothing that was there before. The conditions stand in each theorem.
-/
import Derived.Test.YtnjpmpelgigmjaaC34Walk8
namespace Go.Proofs.Ytnjpmpelgigmjaa
open Go.RowKit
attribute [local go_sem ↓] run_eql_trace run_neq_trace

def StubE.rel0 (b : Bool) (t : TraceE) (e : StubE) : StubE := if teq t.machine t.serial 0 0 then e else e.rel b t
def ScionE.rel0 (b : Bool) (t : TraceE) (e : ScionE) : ScionE := if teq t.machine t.serial 0 0 then e else e.rel b t
theorem relStubs_map (b : Bool) (t : TraceE) (l : List StubE) : relStubs b t l = l.map (StubE.rel0 b t) := by
  unfold relStubs
  split
  · rename_i h; rw [List.map_congr_left (g := id) (fun e _ => by simp [StubE.rel0, h])]; simp
  · rename_i h; exact List.map_congr_left fun e _ => by simp [StubE.rel0, h]
theorem relScions_map (b : Bool) (t : TraceE) (l : List ScionE) : relScions b t l = l.map (ScionE.rel0 b t) := by
  unfold relScions
  split
  · rename_i h; rw [List.map_congr_left (g := id) (fun e _ => by simp [ScionE.rel0, h])]; simp
  · rename_i h; exact List.map_congr_left fun e _ => by simp [ScionE.rel0, h]


set_option maxHeartbeats 1600000 in
theorem refRelease_any (b : Bool) (t : TraceE) (sA : Option Addr) (sC : Nat) (stubs : List StubE) (nA : Option Addr) (nC : Nat) (scions : List ScionE) (w : World)
    (hs : SlAt StubE.cells 12 w sA stubs) (hn : SlAt ScionE.cells 12 w nA scions) (hsl : stubs.length ≤ 100000000) (hnl : scions.length ≤ 100000000) :
    Calls Try.prog 16 #[.bool b, t.v, .slice sA stubs.length sC, .slice nA scions.length nC] w
      fun r w' => ∃ v1 v2, r = .returned (.tuple #[v1, v2]) ∧ Own StubE.cells 12 42 w.heap.size w' v1 (relStubs b t stubs) ∧ Own ScionE.cells 12 45 w.heap.size w' v2 (relScions b t scions) ∧ Below w.heap.size w w' := by
  have H1 := hide (relStubs_map b t stubs)
  have H2 := hide (relScions_map b t scions)
  go_enter Try.func16, Try.ntmps16
  go_wp2_with (first
    | (at_builtin; refine wpList_app (v := .slice (some ⟨w.heap.size + 1, 0, none⟩) 0 0) (l := []) rfl (.tmp 14) (.tmp 15) rfl StubE.enc stubT (Own.empty_at (w := w.alloc (.cells #[.int .i64 t.machine, .int .i64 t.serial] 26)) (base := w.heap.size + 1) (by simp) (by simp)) sA sC stubs (hs.below (by repeat (first | with_reducible exact Below.refl _ _ | (with_reducible refine Below.drew ?_) | (with_reducible refine below_drewN ?_ _) | (with_reducible refine Below.alloc ?_ ?_ _; rotate_left; (first | omega | (simp <;> omega))) | (with_reducible refine Below.setCell ?_ ?_ _; rotate_left; (first | omega | (simp <;> omega)))))) rfl rfl (by simp; omega) (by simp [maxLen]; omega) (by simp) ?_; intro v1 w1 ho1 hg1 hat1; have hb1 : Below (w.heap.size + 1) (w.alloc (.cells #[.int .i64 t.machine, .int .i64 t.serial] 26)) w1 := Own.belowGrown (Own.empty_at (f := StubE.cells) (s := 12) (w := w.alloc (.cells #[.int .i64 t.machine, .int .i64 t.serial] 26)) (base := w.heap.size + 1) (e := 42) (H := w.heap.size + 1) (by simp) (by simp)) (by repeat (first | with_reducible exact Below.refl _ _ | (with_reducible refine Below.drew ?_) | (with_reducible refine below_drewN ?_ _) | (with_reducible refine Below.alloc ?_ ?_ _; rotate_left; (first | omega | (simp <;> omega))) | (with_reducible refine Below.setCell ?_ ?_ _; rotate_left; (first | omega | (simp <;> omega))))) hg1 (Nat.le_refl _) (by simp); have hz1 : w.heap.size + 1 ≤ w1.heap.size := (by have := hb1.size; simpa using this))
    | (at_builtin; refine wpList_app (v := .slice (some ⟨w1.heap.size, 0, none⟩) 0 0) (l := []) rfl (.tmp 17) (.tmp 18) rfl ScionE.enc scionT (Own.empty (w := w1) (base := w1.heap.size) (Nat.le_refl _)) nA nC scions (hn.below (Below.trans (by repeat (first | with_reducible exact Below.refl _ _ | (with_reducible refine Below.drew ?_) | (with_reducible refine below_drewN ?_ _) | (with_reducible refine Below.alloc ?_ ?_ _; rotate_left; (first | omega | (simp <;> omega))) | (with_reducible refine Below.setCell ?_ ?_ _; rotate_left; (first | omega | (simp <;> omega))))) ((hb1.mono (Nat.le_succ _)).trans (by repeat (first | with_reducible exact Below.refl _ _ | (with_reducible refine Below.drew ?_) | (with_reducible refine below_drewN ?_ _) | (with_reducible refine Below.alloc ?_ ?_ _; rotate_left; (first | omega | (simp <;> omega))) | (with_reducible refine Below.setCell ?_ ?_ _; rotate_left; (first | omega | (simp <;> omega)))))))) rfl rfl (by simp; omega) (by simp [maxLen]; omega) (by simp) ?_; intro v2 w2 ho2 hg2 hat2; have hb2 : Below w1.heap.size w1 w2 := Own.belowGrown (Own.empty (f := ScionE.cells) (s := 12) (w := w1) (base := w1.heap.size) (e := 45) (Nat.le_refl _)) (by repeat (first | with_reducible exact Below.refl _ _ | (with_reducible refine Below.drew ?_) | (with_reducible refine below_drewN ?_ _) | (with_reducible refine Below.alloc ?_ ?_ _; rotate_left; (first | omega | (simp <;> omega))) | (with_reducible refine Below.setCell ?_ ?_ _; rotate_left; (first | omega | (simp <;> omega))))) hg2 (Nat.le_refl _) (by simp)))
  have T0 : w2.cell? ⟨w.heap.size, 0, none⟩ = some (.int .i64 t.machine) := (hb2.cell (p := ⟨w.heap.size, 0, none⟩) (by simp; omega)).trans ((hb1.cell (p := ⟨w.heap.size, 0, none⟩) (by simp)).trans (by simp))
  have T1 : w2.cell? ⟨w.heap.size, 1, none⟩ = some (.int .i64 t.serial) := (hb2.cell (p := ⟨w.heap.size, 1, none⟩) (by simp; omega)).trans ((hb1.cell (p := ⟨w.heap.size, 1, none⟩) (by simp)).trans (by simp))
  have hA1 := hide (fun g (h : v1.ownBlock = some g) => (World.ownsRow.lt ho1 g h).2)
  have Ho1 : Own StubE.cells 12 42 (w.heap.size + 1) w2 v1 stubs := by simpa using ho1.below hb2
  have Ho2 : Own ScionE.cells 12 45 w1.heap.size w2 v2 scions := by simpa using ho2
  have hb2' : Below w.heap.size w w2 := (Below.trans (by repeat (first | with_reducible exact Below.refl _ _ | (with_reducible refine Below.drew ?_) | (with_reducible refine below_drewN ?_ _) | (with_reducible refine Below.alloc ?_ ?_ _; rotate_left; (first | omega | (simp <;> omega))) | (with_reducible refine Below.setCell ?_ ?_ _; rotate_left; (first | omega | (simp <;> omega))))) (hb1.mono (Nat.le_succ _))).trans (hb2.mono (by omega))
  have hz2 := hb2.size
  clear ho1 ho2 hg1 hg2 hat1 hat2 hb1 hb2 hs hn
  obtain ⟨aA, aC, rfl, haC, -, -⟩ := Ho1.slAt StubE.enc
  obtain ⟨bA, bC, rfl, hbC, -, -⟩ := Ho2.slAt ScionE.enc
  go_loopw [12] (fun i wr => ∃ k : Nat, k ≤ stubs.length ∧ i = .int .i64 k ∧ Own StubE.cells 12 42 (w.heap.size + 1) wr (.slice aA stubs.length aC) (mapTo (StubE.rel0 b t) stubs k) ∧
      Own ScionE.cells 12 45 w1.heap.size wr (.slice bA scions.length bC) scions ∧ Below (w.heap.size + 1) w2 wr) (fun i _ => stubs.length - (intOf i).toNat)
  case atStart => exact ⟨0, by omega, rfl, by rw [mapTo_zero]; exact Ho1, Ho2, Below.refl _ _⟩
  case round =>
    clear Ho1 Ho2
    obtain ⟨k, hk, rfl, hown, hob, hb⟩ := hrel
    have Y0 : wr.cell? ⟨w.heap.size, 0, none⟩ = some (.int .i64 t.machine) := (hb.cell (p := ⟨w.heap.size, 0, none⟩) (by simp)).trans T0
    have Y1 : wr.cell? ⟨w.heap.size, 1, none⟩ = some (.int .i64 t.serial) := (hb.cell (p := ⟨w.heap.size, 1, none⟩) (by simp)).trans T1
    have hws := hb.size
    clear T0 T1
    by_cases hlt : k < stubs.length
    · obtain ⟨x, hx⟩ : ∃ x, stubs[k]? = some x := ⟨_, List.getElem?_eq_getElem hlt⟩
      have hxk := mapTo_get (F := StubE.rel0 b t) hx
      obtain ⟨g, rfl⟩ := hown.isSome (by intro h; rw [h] at hxk; simp at hxk)
      have hg := hown.base_le
      have hgl := hown.lt
      have hg' : w.heap.size + 1 ≤ g := by omega
      have hgb : (Value.slice bA scions.length bC).ownBlock ≠ some g := fun e => Nat.not_lt_of_le (World.ownsRow.lt hob g e).1 (hA1.out g rfl)
      have c10 := After.cell (hown.cell StubE.enc hxk (j := 10) rfl)
      have c11 := After.cell (hown.cell StubE.enc hxk (j := 11) rfl)
      have y0 := After.cell Y0
      have y1 := After.cell Y1
      have Hx := hide hx
      have Hxk := hide hxk
      clear hx hxk Y0 Y1
      cases h0 : teq t.machine t.serial 0 0
      · cases ht : teq x.lockMachine x.lockSerial t.machine t.serial
        · have Hm := hide (mapTo_same (F := StubE.rel0 b t) Hx.out (by simp [StubE.rel0, StubE.rel, ht]))
          go_wp2_with fail
          (refine wp_region_after (by kernel_rfl) (by kernel_rfl) ?_
           repeat (any_goals (first | go_big_quiet_skip | (go_big_quiet_want; go_big_quiet_op; first | go_big_quiet_on | go_big_quiet_call (fail)) | quiet_step (fail) | (refine wpQuiet_step (fun K hK => ?_); go_simp; split <;> (refine hK _ ?_; clear hK K))))
           all_goals (refine wpQuiet_nil ?_; intro _ hw'; obtain ⟨u', hw''⟩ := hw'; subst hw''; obtain ⟨wd, hbd⟩ := u'; simp only [After.val_mk]))
          go_wp2_with fail
          go_roundw
          case rel => exact ⟨k + 1, by omega, by go_num, by rw [Hm.out]; exact hown.below hbd, hob.below hbd, hb.trans (hbd.mono (by omega))⟩
          case measure => simp [intOf]; omega
        · go_wp2_with fail
          (refine wp_region_after (by kernel_rfl) (by kernel_rfl) ?_
           repeat (any_goals (first | go_big_quiet_skip | (go_big_quiet_want; go_big_quiet_op; first | go_big_quiet_on | go_big_quiet_call (fail)) | quiet_step (fail) | (refine wpQuiet_step (fun K hK => ?_); go_simp; split <;> (refine hK _ ?_; clear hK K))))
           all_goals (refine wpQuiet_nil ?_; intro _ hw'; obtain ⟨u', hw''⟩ := hw'; subst hw''; obtain ⟨wd, hbd⟩ := u'; simp only [After.val_mk]))
          have ho := hown.below hbd
          have hob' := hob.below hbd
          have hbw : Below (w.heap.size + 1) w2 wd := hb.trans (hbd.mono (by omega))
          have d9 := ho.cell StubE.enc Hxk.out (j := 9) rfl
          have d10 := ho.cell StubE.enc Hxk.out (j := 10) rfl
          have d11 := ho.cell StubE.enc Hxk.out (j := 11) rfl
          have z9 := ho.free (k * 12 + 9)
          have z10 := ho.free (k * 12 + 10)
          have z11 := ho.free (k * 12 + 11)
          have hkl := (List.getElem?_eq_some_iff.1 Hxk.out).1
          have s1 := ho.store StubE.enc (j := 10) (u := .int .i64 0) (x' := { x with lockMachine := 0 }) Hxk.out (by omega) rfl
          have s2 := s1.store StubE.enc (j := 11) (u := .int .i64 0) (x' := { x with lockMachine := 0, lockSerial := 0 }) (List.getElem?_set_self hkl) (by omega) rfl
          have s3 := s2.store StubE.enc (j := 9) (u := .bool (x.dead || b)) (x' := StubE.rel0 b t x) (List.getElem?_set_self (by simpa using hkl)) (by omega) (by simp [StubE.rel0, StubE.rel, h0, ht, StubE.cells])
          rw [List.set_set, List.set_set, mapTo_set Hx.out] at s3
          have S3 := hide s3
          clear s1 s2 s3 c10 c11 y0 y1 hkl
          cases hd : x.dead
          all_goals
            rw [hd] at S3
            simp only [Bool.false_or, Bool.true_or] at S3
            go_wp2_with fail
            go_roundw
            case rel => exact ⟨k + 1, by omega, by go_num, S3.out, ((hob'.far (p := ⟨g, k * 12 + 10, none⟩) hgb _).far (p := ⟨g, k * 12 + 10 + 1, none⟩) hgb _).far (p := ⟨g, k * 12 + 9, none⟩) hgb _, Below.setCell (p := ⟨g, k * 12 + 9, none⟩) (Below.setCell (p := ⟨g, k * 12 + 10 + 1, none⟩) (Below.setCell (p := ⟨g, k * 12 + 10, none⟩) hbw hg' _) hg' _) hg' _⟩
            case measure => simp [intOf]; omega
      · have Hm := hide (mapTo_same (F := StubE.rel0 b t) Hx.out (by simp [StubE.rel0, h0]))
        go_wp2_with fail
        (refine wp_region_after (by kernel_rfl) (by kernel_rfl) ?_
         repeat (any_goals (first | go_big_quiet_skip | (go_big_quiet_want; go_big_quiet_op; first | go_big_quiet_on | go_big_quiet_call (fail)) | quiet_step (fail) | (refine wpQuiet_step (fun K hK => ?_); go_simp; split <;> (refine hK _ ?_; clear hK K))))
         all_goals (refine wpQuiet_nil ?_; intro _ hw'; obtain ⟨u', hw''⟩ := hw'; subst hw''; obtain ⟨wd, hbd⟩ := u'; simp only [After.val_mk]))
        go_wp2_with fail
        go_roundw
        case rel => exact ⟨k + 1, by omega, by go_num, by rw [Hm.out]; exact hown.below hbd, hob.below hbd, hb.trans (hbd.mono (by omega))⟩
        case measure => simp [intOf]; omega
    · have hk' : k = stubs.length := by omega
      subst hk'
      rw [mapTo_all, ← H1.out] at hown
      clear hlt hk
      go_wp2_with fail
      obtain ⟨w3, rfl⟩ : ∃ w3, w3 = wr := ⟨_, rfl⟩
      have hownA := hown
      have hownb := hob
      have T0' := Y0
      have T1' := Y1
      have hb3 : Below w.heap.size w w3 := hb2'.trans (hb.mono (by omega))
      clear hown hob hb Y0 Y1
      go_loopw [13] (fun i wr => ∃ k : Nat, k ≤ scions.length ∧ i = .int .i64 k ∧ Own ScionE.cells 12 45 w1.heap.size wr (.slice bA scions.length bC) (mapTo (ScionE.rel0 b t) scions k) ∧
          Own StubE.cells 12 42 (w.heap.size + 1) wr (.slice aA stubs.length aC) (relStubs b t stubs) ∧ Below (w.heap.size + 1) w3 wr) (fun i _ => scions.length - (intOf i).toNat)
      case atStart => exact ⟨0, by omega, rfl, by rw [mapTo_zero]; exact hownb, hownA, Below.refl _ _⟩
      case round =>
        clear hownb hownA
        obtain ⟨k, hk, rfl, hown, hob, hb⟩ := hrel
        have Y0 : wr.cell? ⟨w.heap.size, 0, none⟩ = some (.int .i64 t.machine) := (hb.cell (p := ⟨w.heap.size, 0, none⟩) (by simp)).trans T0'
        have Y1 : wr.cell? ⟨w.heap.size, 1, none⟩ = some (.int .i64 t.serial) := (hb.cell (p := ⟨w.heap.size, 1, none⟩) (by simp)).trans T1'
        have hws3 := hb.size
        clear T0' T1'
        by_cases hlt : k < scions.length
        · obtain ⟨x, hx⟩ : ∃ x, scions[k]? = some x := ⟨_, List.getElem?_eq_getElem hlt⟩
          have hxk := mapTo_get (F := ScionE.rel0 b t) hx
          obtain ⟨g, rfl⟩ := hown.isSome (by intro h; rw [h] at hxk; simp at hxk)
          have hg := hown.base_le
          have hgl := hown.lt
          have hg' : w.heap.size + 1 ≤ g := by omega
          have hgb : (Value.slice aA stubs.length aC).ownBlock ≠ some g := fun e => Nat.not_lt_of_le hg (hA1.out g e)
          have c10 := After.cell (hown.cell ScionE.enc hxk (j := 10) rfl)
          have c11 := After.cell (hown.cell ScionE.enc hxk (j := 11) rfl)
          have y0 := After.cell Y0
          have y1 := After.cell Y1
          have Hx := hide hx
          have Hxk := hide hxk
          clear hx hxk Y0 Y1
          cases h0 : teq t.machine t.serial 0 0
          · cases ht : teq x.lockMachine x.lockSerial t.machine t.serial
            · have Hm := hide (mapTo_same (F := ScionE.rel0 b t) Hx.out (by simp [ScionE.rel0, ScionE.rel, ht]))
              go_wp2_with fail
              (refine wp_region_after (by kernel_rfl) (by kernel_rfl) ?_
               repeat (any_goals (first | go_big_quiet_skip | (go_big_quiet_want; go_big_quiet_op; first | go_big_quiet_on | go_big_quiet_call (fail)) | quiet_step (fail) | (refine wpQuiet_step (fun K hK => ?_); go_simp; split <;> (refine hK _ ?_; clear hK K))))
               all_goals (refine wpQuiet_nil ?_; intro _ hw'; obtain ⟨u', hw''⟩ := hw'; subst hw''; obtain ⟨wd, hbd⟩ := u'; simp only [After.val_mk]))
              go_wp2_with fail
              go_roundw
              case rel => exact ⟨k + 1, by omega, by go_num, by rw [Hm.out]; exact hown.below hbd, hob.below hbd, hb.trans (hbd.mono (by omega))⟩
              case measure => simp [intOf]; omega
            · go_wp2_with fail
              (refine wp_region_after (by kernel_rfl) (by kernel_rfl) ?_
               repeat (any_goals (first | go_big_quiet_skip | (go_big_quiet_want; go_big_quiet_op; first | go_big_quiet_on | go_big_quiet_call (fail)) | quiet_step (fail) | (refine wpQuiet_step (fun K hK => ?_); go_simp; split <;> (refine hK _ ?_; clear hK K))))
               all_goals (refine wpQuiet_nil ?_; intro _ hw'; obtain ⟨u', hw''⟩ := hw'; subst hw''; obtain ⟨wd, hbd⟩ := u'; simp only [After.val_mk]))
              have ho := hown.below hbd
              have hob' := hob.below hbd
              have hbw : Below (w.heap.size + 1) w3 wd := hb.trans (hbd.mono (by omega))
              have d9 := ho.cell ScionE.enc Hxk.out (j := 9) rfl
              have d10 := ho.cell ScionE.enc Hxk.out (j := 10) rfl
              have d11 := ho.cell ScionE.enc Hxk.out (j := 11) rfl
              have z9 := ho.free (k * 12 + 9)
              have z10 := ho.free (k * 12 + 10)
              have z11 := ho.free (k * 12 + 11)
              have hkl := (List.getElem?_eq_some_iff.1 Hxk.out).1
              have s1 := ho.store ScionE.enc (j := 10) (u := .int .i64 0) (x' := { x with lockMachine := 0 }) Hxk.out (by omega) rfl
              have s2 := s1.store ScionE.enc (j := 11) (u := .int .i64 0) (x' := { x with lockMachine := 0, lockSerial := 0 }) (List.getElem?_set_self hkl) (by omega) rfl
              have s3 := s2.store ScionE.enc (j := 9) (u := .bool (x.garbage || b)) (x' := ScionE.rel0 b t x) (List.getElem?_set_self (by simpa using hkl)) (by omega) (by simp [ScionE.rel0, ScionE.rel, h0, ht, ScionE.cells])
              rw [List.set_set, List.set_set, mapTo_set Hx.out] at s3
              have S3 := hide s3
              clear s1 s2 s3 c10 c11 y0 y1 hkl
              cases hd : x.garbage
              all_goals
                rw [hd] at S3
                simp only [Bool.false_or, Bool.true_or] at S3
                go_wp2_with fail
                go_roundw
                case rel => exact ⟨k + 1, by omega, by go_num, S3.out, ((hob'.far (p := ⟨g, k * 12 + 10, none⟩) hgb _).far (p := ⟨g, k * 12 + 10 + 1, none⟩) hgb _).far (p := ⟨g, k * 12 + 9, none⟩) hgb _, Below.setCell (p := ⟨g, k * 12 + 9, none⟩) (Below.setCell (p := ⟨g, k * 12 + 10 + 1, none⟩) (Below.setCell (p := ⟨g, k * 12 + 10, none⟩) hbw hg' _) hg' _) hg' _⟩
                case measure => simp [intOf]; omega
          · have Hm := hide (mapTo_same (F := ScionE.rel0 b t) Hx.out (by simp [ScionE.rel0, h0]))
            go_wp2_with fail
            (refine wp_region_after (by kernel_rfl) (by kernel_rfl) ?_
             repeat (any_goals (first | go_big_quiet_skip | (go_big_quiet_want; go_big_quiet_op; first | go_big_quiet_on | go_big_quiet_call (fail)) | quiet_step (fail) | (refine wpQuiet_step (fun K hK => ?_); go_simp; split <;> (refine hK _ ?_; clear hK K))))
             all_goals (refine wpQuiet_nil ?_; intro _ hw'; obtain ⟨u', hw''⟩ := hw'; subst hw''; obtain ⟨wd, hbd⟩ := u'; simp only [After.val_mk]))
            go_wp2_with fail
            go_roundw
            case rel => exact ⟨k + 1, by omega, by go_num, by rw [Hm.out]; exact hown.below hbd, hob.below hbd, hb.trans (hbd.mono (by omega))⟩
            case measure => simp [intOf]; omega
        · have hk' : k = scions.length := by omega
          subst hk'
          rw [mapTo_all, ← H2.out] at hown
          clear hlt hk
          go_wp2_with fail
          go_ret2
          exact ⟨_, _, rfl, hob.mono (by omega), hown.mono (by omega), hb3.trans (hb.mono (by omega))⟩
end Go.Proofs.Ytnjpmpelgigmjaa

/-
  Contracts of the functions of this seat that each theorem names: what a call returns, and that it writes nothing that was there before. The conditions stand in each theorem.
-/
import Derived.Test.YtnjpmpelgigmjaaC34Walk5
import Derived.Laws.EntriesVeiled
namespace Go.Proofs.Ytnjpmpelgigmjaa
open Go.RowKit
attribute [local go_sem ↓] run_eql_trace run_neq_trace

theorem stubT : ElemT Try.prog 27 42 12 80 := ElemT.mk' (z := .agg #[.int .i64 0, .int .u64 0, .int .i64 0, .int .i64 0, .int .i64 0, .int .i64 0, .int .i64 0, .bool false, .bool false, .bool false, .int .i64 0, .int .i64 0]) Try.underlying27 (by kernel_rfl) rfl
theorem scionT : ElemT Try.prog 28 45 12 80 := ElemT.mk' (z := .agg #[.int .i64 0, .int .u64 0, .int .i64 0, .int .i64 0, .int .i64 0, .int .i64 0, .int .i64 0, .bool false, .bool false, .bool false, .int .i64 0, .int .i64 0]) Try.underlying28 (by kernel_rfl) rfl

set_option maxHeartbeats 400000 in
theorem cloneStub_any (A : Option Addr) (c : Nat) (l : List StubE) (w : World) (hr : SlAt StubE.cells 12 w A l) (hlen : l.length ≤ 100000000) :
    Calls Try.prog 55 #[.slice A l.length c] w fun r w' => ∃ v, r = .returned v ∧ Own StubE.cells 12 42 w.heap.size w' v l ∧ Below w.heap.size w w' := by
  have hq := fun (W : World) n c => Lib.run_eql_slice_nil (P := Try.prog) W 27 42 A n c 0 0 Try.underlying27
  rcases A with _ | ad
  · have hl : l = [] := by
      by_cases h : l = []
      · exact h
      · obtain ⟨b, off, e, _⟩ := hr h; cases e
    subst hl
    have hq' := fun W n c => hq W n c
    simp only [Option.isNone_none] at hq'
    clear hq
    go_enter Try.func55, Try.ntmps55
    go_wp2
    go_ret
    exact ⟨_, rfl, Own.nil, Below.refl _ _⟩
  · simp only [Option.isNone_some] at hq
    go_enter Try.func55, Try.ntmps55
    go_wp2_with (at_builtin; refine wpList_app (v := .slice (some ⟨w.heap.size, 0, none⟩) 0 0) (l := []) rfl (.tmp 5) (.tmp 6) rfl StubE.enc stubT (Own.empty (Nat.le_refl _)) (some ad) c l (hr.below (by repeat (first | with_reducible exact Below.refl _ _ | (with_reducible refine Below.drew ?_) | (with_reducible refine below_drewN ?_ _) | (with_reducible refine Below.alloc ?_ ?_ _; rotate_left; (first | omega | (simp <;> omega))) | (with_reducible refine Below.setCell ?_ ?_ _; rotate_left; (first | omega | (simp <;> omega)))))) rfl rfl (by simp; omega) (by simp [maxLen]; omega) (by simp) ?_; intro v' w' hown hg hat)
    go_ret
    exact ⟨_, rfl, hown, Own.belowGrown (base := w.heap.size) (l := []) (f := StubE.cells) (s := 12) (e := 42) (Own.empty (Nat.le_refl _)) (by repeat (first | with_reducible exact Below.refl _ _ | (with_reducible refine Below.drew ?_) | (with_reducible refine below_drewN ?_ _) | (with_reducible refine Below.alloc ?_ ?_ _; rotate_left; (first | omega | (simp <;> omega))) | (with_reducible refine Below.setCell ?_ ?_ _; rotate_left; (first | omega | (simp <;> omega))))) hg (Nat.le_refl _) (by simp)⟩

set_option maxHeartbeats 400000 in
theorem cloneScion_any (A : Option Addr) (c : Nat) (l : List ScionE) (w : World) (hr : SlAt ScionE.cells 12 w A l) (hlen : l.length ≤ 100000000) :
    Calls Try.prog 56 #[.slice A l.length c] w fun r w' => ∃ v, r = .returned v ∧ Own ScionE.cells 12 45 w.heap.size w' v l ∧ Below w.heap.size w w' := by
  have hq := fun (W : World) n c => Lib.run_eql_slice_nil (P := Try.prog) W 28 45 A n c 0 0 Try.underlying28
  rcases A with _ | ad
  · have hl : l = [] := by
      by_cases h : l = []
      · exact h
      · obtain ⟨b, off, e, _⟩ := hr h; cases e
    subst hl
    have hq' := fun W n c => hq W n c
    simp only [Option.isNone_none] at hq'
    clear hq
    go_enter Try.func56, Try.ntmps56
    go_wp2
    go_ret
    exact ⟨_, rfl, Own.nil, Below.refl _ _⟩
  · simp only [Option.isNone_some] at hq
    go_enter Try.func56, Try.ntmps56
    go_wp2_with (at_builtin; refine wpList_app (v := .slice (some ⟨w.heap.size, 0, none⟩) 0 0) (l := []) rfl (.tmp 5) (.tmp 6) rfl ScionE.enc scionT (Own.empty (Nat.le_refl _)) (some ad) c l (hr.below (by repeat (first | with_reducible exact Below.refl _ _ | (with_reducible refine Below.drew ?_) | (with_reducible refine below_drewN ?_ _) | (with_reducible refine Below.alloc ?_ ?_ _; rotate_left; (first | omega | (simp <;> omega))) | (with_reducible refine Below.setCell ?_ ?_ _; rotate_left; (first | omega | (simp <;> omega)))))) rfl rfl (by simp; omega) (by simp [maxLen]; omega) (by simp) ?_; intro v' w' hown hg hat)
    go_ret
    exact ⟨_, rfl, hown, Own.belowGrown (base := w.heap.size) (l := []) (f := ScionE.cells) (s := 12) (e := 45) (Own.empty (Nat.le_refl _)) (by repeat (first | with_reducible exact Below.refl _ _ | (with_reducible refine Below.drew ?_) | (with_reducible refine below_drewN ?_ _) | (with_reducible refine Below.alloc ?_ ?_ _; rotate_left; (first | omega | (simp <;> omega))) | (with_reducible refine Below.setCell ?_ ?_ _; rotate_left; (first | omega | (simp <;> omega))))) hg (Nat.le_refl _) (by simp)⟩

set_option maxHeartbeats 400000 in
theorem lockStub1_any {base g cap n k : Nat} {l : List StubE} {x : StubE} (t : TraceE) (gt : Nat) (w : World) (hown : Own StubE.cells 12 42 base w (.slice (some ⟨g, 0, none⟩) n cap) l) (hx : l[k]? = some x)
    (h0 : w.cell? ⟨gt, 0, none⟩ = some (.int .i64 t.machine)) (h1 : w.cell? ⟨gt, 1, none⟩ = some (.int .i64 t.serial)) :
    Calls Try.prog 36 #[.pointer (some ⟨g, k * 12, none⟩), .pointer (some ⟨gt, 0, none⟩)] w
      fun r w' => r = .returned (.tuple #[]) ∧ Own StubE.cells 12 42 base w' (.slice (some ⟨g, 0, none⟩) n cap) (l.set k (x.setLock t)) ∧ Below base w w' ∧ w.grownBy w' (some g) := by
  have c10 := hown.cell StubE.enc hx (j := 10) rfl
  have c11 := hown.cell StubE.enc hx (j := 11) rfl
  have f10 := hown.free (k * 12 + 10)
  have f11 := hown.free (k * 12 + 11)
  have hb := hown.base_le
  have s1 := hown.store StubE.enc (j := 10) (u := .int .i64 t.machine) (x' := { x with lockMachine := t.machine }) hx (by omega) rfl
  have hl : k < l.length := (List.getElem?_eq_some_iff.1 hx).1
  have s2 := s1.store StubE.enc (j := 11) (u := .int .i64 t.serial) (x' := x.setLock t) (List.getElem?_set_self hl) (by omega) rfl
  rw [List.set_set] at s2
  have S2 := hide (show Own StubE.cells 12 42 base ((w.setCell ⟨g, k * 12 + 10, none⟩ (.int .i64 t.machine)).setCell ⟨g, k * 12 + 10 + 1, none⟩ (.int .i64 t.serial)) (.slice (some ⟨g, 0, none⟩) n cap) (l.set k (x.setLock t)) from s2)
  clear s1 s2 hown hx
  go_enter Try.func36, Try.ntmps36
  go_wp2
  go_end0
  exact ⟨rfl, S2.out, Below.setCell (p := ⟨g, k * 12 + 10 + 1, none⟩) (Below.setCell (p := ⟨g, k * 12 + 10, none⟩) (Below.refl _ _) hb _) hb _, (grown_setCell _ ⟨g, k * 12 + 10, none⟩ _).trans (grown_setCell _ ⟨g, k * 12 + 10 + 1, none⟩ _)⟩

set_option maxHeartbeats 400000 in
theorem lockScion1_any {base g cap n k : Nat} {l : List ScionE} {x : ScionE} (t : TraceE) (gt : Nat) (w : World) (hown : Own ScionE.cells 12 45 base w (.slice (some ⟨g, 0, none⟩) n cap) l) (hx : l[k]? = some x)
    (h0 : w.cell? ⟨gt, 0, none⟩ = some (.int .i64 t.machine)) (h1 : w.cell? ⟨gt, 1, none⟩ = some (.int .i64 t.serial)) :
    Calls Try.prog 39 #[.pointer (some ⟨g, k * 12, none⟩), .pointer (some ⟨gt, 0, none⟩)] w
      fun r w' => r = .returned (.tuple #[]) ∧ Own ScionE.cells 12 45 base w' (.slice (some ⟨g, 0, none⟩) n cap) (l.set k (x.setLock t)) ∧ Below base w w' ∧ w.grownBy w' (some g) := by
  have c10 := hown.cell ScionE.enc hx (j := 10) rfl
  have c11 := hown.cell ScionE.enc hx (j := 11) rfl
  have f10 := hown.free (k * 12 + 10)
  have f11 := hown.free (k * 12 + 11)
  have hb := hown.base_le
  have s1 := hown.store ScionE.enc (j := 10) (u := .int .i64 t.machine) (x' := { x with lockMachine := t.machine }) hx (by omega) rfl
  have hl : k < l.length := (List.getElem?_eq_some_iff.1 hx).1
  have s2 := s1.store ScionE.enc (j := 11) (u := .int .i64 t.serial) (x' := x.setLock t) (List.getElem?_set_self hl) (by omega) rfl
  rw [List.set_set] at s2
  have S2 := hide (show Own ScionE.cells 12 45 base ((w.setCell ⟨g, k * 12 + 10, none⟩ (.int .i64 t.machine)).setCell ⟨g, k * 12 + 10 + 1, none⟩ (.int .i64 t.serial)) (.slice (some ⟨g, 0, none⟩) n cap) (l.set k (x.setLock t)) from s2)
  clear s1 s2 hown hx
  go_enter Try.func39, Try.ntmps39
  go_wp2
  go_end0
  exact ⟨rfl, S2.out, Below.setCell (p := ⟨g, k * 12 + 10 + 1, none⟩) (Below.setCell (p := ⟨g, k * 12 + 10, none⟩) (Below.refl _ _) hb _) hb _, (grown_setCell _ ⟨g, k * 12 + 10, none⟩ _).trans (grown_setCell _ ⟨g, k * 12 + 10 + 1, none⟩ _)⟩

set_option maxHeartbeats 800000 in
theorem changeStub_any (nA : Option Addr) (nC : Nat) (ns : List NeedE) (A : Option Addr) (c : Nat) (l : List StubE) (t : TraceE) (gt : Nat) (w : World)
    (hns : SlAt NeedE.cells 3 w nA ns) (hnl : ns.length ≤ 9223372036854775807) (hr : SlAt StubE.cells 12 w A l) (hlen : l.length ≤ 100000000)
    (h0 : w.cell? ⟨gt, 0, none⟩ = some (.int .i64 t.machine)) (h1 : w.cell? ⟨gt, 1, none⟩ = some (.int .i64 t.serial)) :
    Calls Try.prog 34 #[.slice nA ns.length nC, .slice A l.length c, .func (.func 35) #[] #[], .func (.func 36) #[] #[.pointer (some ⟨gt, 0, none⟩)]] w
      fun r w' => ∃ v, r = .returned v ∧ Own StubE.cells 12 42 w.heap.size w' v (lockStubs t ns l) ∧ Below w.heap.size w w' := by
  go_enter Try.func34, Try.ntmps34
  go_wp2_with fail
  refine (cloneStub_any A c l _ hr hlen).mono ?_
  rintro r w0 ⟨v, rfl, hown, hb0⟩
  obtain ⟨oA, oC, rfl, hoc, -, -⟩ := hown.slAt StubE.enc
  clear hr
  go_wp2_with fail
  go_loopw [11, 12, 17] (fun _ _ i wr => ∃ k : Nat, k ≤ ns.length ∧ i = .int .i64 k ∧ Own StubE.cells 12 42 w.heap.size wr (.slice oA l.length oC) (lockStubs t (ns.take k) l) ∧ Below w.heap.size w wr) (fun _ _ i _ => ns.length - (intOf i).toNat)
  case atStart => exact ⟨0, by omega, rfl, hown, hb0⟩
  case round =>
    clear hown hb0
    obtain ⟨k, hk, rfl, hown, hb⟩ := hrel
    by_cases hlt : k < ns.length
    · obtain ⟨b, off, n, rfl, hbk, he, hcells⟩ := (hns.below hb).at_ hlt
      obtain ⟨f0, f1, f2⟩ := NeedE.facts hcells
      have Htake := hide (show lockStubs t (ns.take (k + 1)) l = setAt (isStub n.peer n.number) (StubE.setLock t) (lockStubs t (ns.take k) l) by
        unfold lockStubs
        rw [List.take_add_one, he, Option.toList_some, List.foldl_append]; rfl)
      obtain ⟨lk, hlk⟩ : ∃ lk, lk = lockStubs t (ns.take k) l := ⟨_, rfl⟩
      rw [← hlk] at hown
      have HL := hide (show lk.length = l.length from (hown.at_ StubE.enc).1.symm)
      have Hlk := hide hlk
      have hlen2 : lk.length ≤ 9223372036854775807 := by rw [HL.out]; omega
      clear hlk hcells hns
      go_wp2_with fail
      refine (isStub_mk n _).mono ?_
      rintro r w1 ⟨rfl, m0, m1, hb1⟩
      simp only [World.size_alloc] at m0 m1
      have hb1' : Below wr.heap.size wr w1 := (Below.trans (by repeat (first | with_reducible exact Below.refl _ _ | (with_reducible refine Below.drew ?_) | (with_reducible refine below_drewN ?_ _) | (with_reducible refine Below.alloc ?_ ?_ _; rotate_left; (first | omega | (simp <;> omega))) | (with_reducible refine Below.setCell ?_ ?_ _; rotate_left; (first | omega | (simp <;> omega))))) (hb1.mono (by first | omega | (simp <;> omega))))
      go_wp2_with fail
      have hidx := idxStub_any oA oC lk n _ _ ((hown.at_ StubE.enc).2.2.below hb1') hlen2 m0 m1
      rw [HL.out] at hidx
      refine hidx.mono ?_
      rintro r w2 ⟨rfl, hb2⟩
      clear hidx
      have hb2' : Below wr.heap.size wr w2 := hb1'.trans (hb2.mono hb1'.size)
      have hb3 : Below w.heap.size w w2 := hb.trans (hb2'.mono hb.size)
      have hown2 := hown.below hb2'
      have T0 := cell_below h0 hb3
      have T1 := cell_below h1 hb3
      clear m0 m1 f0 f1 f2 hb1 hb1' hb2 hb2' hown
      rcases idxOf_cases (isStub n.peer n.number) lk with ⟨hi, hno⟩ | ⟨k', x, hi, hx, hp, hno⟩
      · have Hn := hide (show lockStubs t (ns.take (k + 1)) l = lk by rw [Htake.out, ← Hlk.out, setAt_miss hno])
        clear hno
        go_wp2_with fail
        go_roundw
        case rel => exact ⟨k + 1, by omega, by go_num, by rw [Hn.out]; exact hown2, hb3⟩
        case measure => simp [intOf]; omega
      · have Hn := hide (show lockStubs t (ns.take (k + 1)) l = lk.set k' (x.setLock t) by rw [Htake.out, ← Hlk.out, setAt_hit hx hp hno])
        have hk2 : k' < l.length := by rw [← HL.out]; exact (List.getElem?_eq_some_iff.1 hx).1
        have hk3 : decide ((0 : Int) ≤ (k' : Int)) = true := by simp
        obtain ⟨g, rfl⟩ := hown2.isSome (by rintro rfl; simp at hx)
        clear hp hno
        go_wp2_with fail
        refine (lockStub1_any t gt _ hown2 hx T0 T1).mono ?_
        rintro r w3 ⟨rfl, hown3, hb4, -⟩
        go_wp2_with fail
        go_roundw
        case rel => exact ⟨k + 1, by omega, by go_num, by rw [Hn.out]; exact hown3, hb3.trans hb4⟩
        case measure => simp [intOf]; omega
    · have hk' : k = ns.length := by omega
      have Hn := hide (show lockStubs t (ns.take k) l = lockStubs t ns l by subst hk'; rw [List.take_length])
      clear hk'
      go_wp2_with fail
      go_ret
      exact ⟨_, rfl, by rw [← Hn.out]; exact hown, hb⟩

set_option maxHeartbeats 800000 in
theorem changeScion_any (nA : Option Addr) (nC : Nat) (ns : List NeedE) (A : Option Addr) (c : Nat) (l : List ScionE) (t : TraceE) (gt : Nat) (w : World)
    (hns : SlAt NeedE.cells 3 w nA ns) (hnl : ns.length ≤ 9223372036854775807) (hr : SlAt ScionE.cells 12 w A l) (hlen : l.length ≤ 100000000)
    (h0 : w.cell? ⟨gt, 0, none⟩ = some (.int .i64 t.machine)) (h1 : w.cell? ⟨gt, 1, none⟩ = some (.int .i64 t.serial)) :
    Calls Try.prog 37 #[.slice nA ns.length nC, .slice A l.length c, .func (.func 38) #[] #[], .func (.func 39) #[] #[.pointer (some ⟨gt, 0, none⟩)]] w
      fun r w' => ∃ v, r = .returned v ∧ Own ScionE.cells 12 45 w.heap.size w' v (lockScions t ns l) ∧ Below w.heap.size w w' := by
  go_enter Try.func37, Try.ntmps37
  go_wp2_with fail
  refine (cloneScion_any A c l _ hr hlen).mono ?_
  rintro r w0 ⟨v, rfl, hown, hb0⟩
  obtain ⟨oA, oC, rfl, hoc, -, -⟩ := hown.slAt ScionE.enc
  clear hr
  go_wp2_with fail
  go_loopw [11, 12, 17] (fun _ _ i wr => ∃ k : Nat, k ≤ ns.length ∧ i = .int .i64 k ∧ Own ScionE.cells 12 45 w.heap.size wr (.slice oA l.length oC) (lockScions t (ns.take k) l) ∧ Below w.heap.size w wr) (fun _ _ i _ => ns.length - (intOf i).toNat)
  case atStart => exact ⟨0, by omega, rfl, hown, hb0⟩
  case round =>
    clear hown hb0
    obtain ⟨k, hk, rfl, hown, hb⟩ := hrel
    by_cases hlt : k < ns.length
    · obtain ⟨b, off, n, rfl, hbk, he, hcells⟩ := (hns.below hb).at_ hlt
      obtain ⟨f0, f1, f2⟩ := NeedE.facts hcells
      have Htake := hide (show lockScions t (ns.take (k + 1)) l = setAt (isScion n.peer n.number) (ScionE.setLock t) (lockScions t (ns.take k) l) by
        unfold lockScions
        rw [List.take_add_one, he, Option.toList_some, List.foldl_append]; rfl)
      obtain ⟨lk, hlk⟩ : ∃ lk, lk = lockScions t (ns.take k) l := ⟨_, rfl⟩
      rw [← hlk] at hown
      have HL := hide (show lk.length = l.length from (hown.at_ ScionE.enc).1.symm)
      have Hlk := hide hlk
      have hlen2 : lk.length ≤ 9223372036854775807 := by rw [HL.out]; omega
      clear hlk hcells hns
      go_wp2_with fail
      refine (isScion_mk n _).mono ?_
      rintro r w1 ⟨rfl, m0, m1, hb1⟩
      simp only [World.size_alloc] at m0 m1
      have hb1' : Below wr.heap.size wr w1 := (Below.trans (by repeat (first | with_reducible exact Below.refl _ _ | (with_reducible refine Below.drew ?_) | (with_reducible refine below_drewN ?_ _) | (with_reducible refine Below.alloc ?_ ?_ _; rotate_left; (first | omega | (simp <;> omega))) | (with_reducible refine Below.setCell ?_ ?_ _; rotate_left; (first | omega | (simp <;> omega))))) (hb1.mono (by first | omega | (simp <;> omega))))
      go_wp2_with fail
      have hidx := idxScion_any oA oC lk n _ _ ((hown.at_ ScionE.enc).2.2.below hb1') hlen2 m0 m1
      rw [HL.out] at hidx
      refine hidx.mono ?_
      rintro r w2 ⟨rfl, hb2⟩
      clear hidx
      have hb2' : Below wr.heap.size wr w2 := hb1'.trans (hb2.mono hb1'.size)
      have hb3 : Below w.heap.size w w2 := hb.trans (hb2'.mono hb.size)
      have hown2 := hown.below hb2'
      have T0 := cell_below h0 hb3
      have T1 := cell_below h1 hb3
      clear m0 m1 f0 f1 f2 hb1 hb1' hb2 hb2' hown
      rcases idxOf_cases (isScion n.peer n.number) lk with ⟨hi, hno⟩ | ⟨k', x, hi, hx, hp, hno⟩
      · have Hn := hide (show lockScions t (ns.take (k + 1)) l = lk by rw [Htake.out, ← Hlk.out, setAt_miss hno])
        clear hno
        go_wp2_with fail
        go_roundw
        case rel => exact ⟨k + 1, by omega, by go_num, by rw [Hn.out]; exact hown2, hb3⟩
        case measure => simp [intOf]; omega
      · have Hn := hide (show lockScions t (ns.take (k + 1)) l = lk.set k' (x.setLock t) by rw [Htake.out, ← Hlk.out, setAt_hit hx hp hno])
        have hk2 : k' < l.length := by rw [← HL.out]; exact (List.getElem?_eq_some_iff.1 hx).1
        have hk3 : decide ((0 : Int) ≤ (k' : Int)) = true := by simp
        obtain ⟨g, rfl⟩ := hown2.isSome (by rintro rfl; simp at hx)
        clear hp hno
        go_wp2_with fail
        refine (lockScion1_any t gt _ hown2 hx T0 T1).mono ?_
        rintro r w3 ⟨rfl, hown3, hb4, -⟩
        go_wp2_with fail
        go_roundw
        case rel => exact ⟨k + 1, by omega, by go_num, by rw [Hn.out]; exact hown3, hb3.trans hb4⟩
        case measure => simp [intOf]; omega
    · have hk' : k = ns.length := by omega
      have Hn := hide (show lockScions t (ns.take k) l = lockScions t ns l by subst hk'; rw [List.take_length])
      clear hk'
      go_wp2_with fail
      go_ret
      exact ⟨_, rfl, by rw [← Hn.out]; exact hown, hb⟩

end Go.Proofs.Ytnjpmpelgigmjaa

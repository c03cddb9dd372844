/-
  Contracts of the functions of this seat that each theorem names: what a call returns, and that it writes nothing that was there before. The conditions stand in each theorem.
-/
import Derived.Test.YtgddapgdeaeggaaC23LawT
import Derived.Test.YtgddapgdeaeggaaClearLib
import Derived.Test.YtgddapgdeaeggaaGrpA
namespace Go.Proofs.Ytgddapgdeaeggaa
open Go.RowKit
attribute [local go_sem] Instr.makeFunc
def nown (n : Int) (e : StubE) : Bool := e.owner != n
set_option maxHeartbeats 1000000 in
theorem own1_any (W : World) (bo : Nat) (n : Int) (HB : Boxed W bo #[.int .i64 n] 3) (x : StubE) (w : World) [Later W w] : Calls Try.prog 48 #[x.v, .pointer (some ⟨bo, 0, none⟩)] w fun r w' => r = .returned (.bool (nown n x)) ∧ Below w.heap.size w w' := by
  go_enter Try.func48, Try.ntmps48
  go_wp2_with fail
  go_ret
  exact ⟨ret_bool rfl, below_of⟩
set_option maxRecDepth 100000 in
set_option maxHeartbeats 2000000 in
theorem idxOwn_any (W : World) (bo : Nat) (n : Int) (HB : Boxed W bo #[.int .i64 n] 3) (A : Option Addr) (c : Nat) (xs : List StubE) (w : World) [kW : Later W w] (hs : SlAt StubE.cells 12 w A xs) (hl : xs.length ≤ 1000000000) :
    Calls Try.prog 68 #[.slice A xs.length c, .func (.func 48) #[] #[.pointer (some ⟨bo, 0, none⟩)]] w fun r w' => r = .returned (.int .i64 (idxOf (nown n) xs)) ∧ Below w.heap.size w w' := by
  have Hs : ∀ u [Later w u], SlAt StubE.cells 12 u A xs := fun u i => hs.below i.below
  go_enter Try.func68, Try.ntmps68
  go_wp2_with fail
  go_loopw [5, 8] (fun _ i wr => ∃ k : Nat, k ≤ xs.length ∧ i = .int .i64 k ∧ NoneTo (nown n) xs k ∧ Below w.heap.size w wr) (fun _ i _ => xs.length - (intOf i).toNat)
  case atStart => exact ⟨0, by omega, rfl, NoneTo.zero, Below.refl _ _⟩
  case round =>
    obtain ⟨k, hk, rfl, hno, hbr⟩ := hrel
    have lr := later hbr
    have Hno := hide hno
    clear hno
    by_cases hlt : k < xs.length
    · obtain ⟨g, o, x, rfl, hx, C1⟩ := StubE.get (Hs wr) hlt
      have Hx := hide hx
      clear hx
      have HCx : ∀ u [Later W u], Calls Try.prog 48 #[x.v, .pointer (some ⟨bo, 0, none⟩)] u fun r w' => r = .returned (.bool (nown n x)) ∧ Below u.heap.size u w' := fun u i => own1_any W bo n HB x u
      cases hp : nown n x <;> simp only [hp] at HCx
      · go_wp2_with (go_at_call 48; refine (HCx _).mono ?_; rintro r w1 ⟨rfl, hb1⟩; have l1 := later hb1)
        go_roundw
        case rel => exact ⟨k + 1, by omega, by go_num, Hno.out.succ Hx.out hp, below_of⟩
        case measure => simp [intOf]; omega
      · have HI := hide (idxOf_hit Hx.out hp Hno.out)
        go_wp2_with (go_at_call 48; refine (HCx _).mono ?_; rintro r w1 ⟨rfl, hb1⟩; have l1 := later hb1)
        go_ret
        exact ⟨ret_int HI.out.symm, below_of⟩
    · have hk' : k = xs.length := by omega
      subst hk'
      have HI := hide (idxOf_miss Hno.out)
      go_wp2_with fail
      go_ret
      exact ⟨ret_int HI.out.symm, below_of⟩
set_option maxRecDepth 100000 in
set_option maxHeartbeats 4000000 in
theorem delOwn_any (W : World) (bo : Nat) (n : Int) (HB : Boxed W bo #[.int .i64 n] 3) (A : Option Addr) (c : Nat) (l : List StubE) (w : World) (hown : Own StubE.cells 12 37 W.heap.size w (.slice A l.length c) l) (hl : l.length ≤ 1000000000) (hb : Below W.heap.size W w) :
    Calls Try.prog 47 #[.slice A l.length c, .func (.func 48) #[] #[.pointer (some ⟨bo, 0, none⟩)]] w fun r w' => ∃ q, Hid (q = l.filter fun t => !nown n t) ∧ r = .returned (.slice A q.length c) ∧ Own StubE.cells 12 37 W.heap.size w' (.slice A q.length c) q ∧ Below W.heap.size W w' := by
  have hs := (hown.at_ StubE.enc).2.2
  have lw := later hb
  rcases idxOf_cases (nown n) l with ⟨hi, hno⟩ | ⟨i, x, hi, hx, hp, hno⟩
  · have hf := hide (show l = l.filter fun t => !nown n t from (List.filter_eq_self.2 fun t ht => by
      obtain ⟨j, hj⟩ := List.getElem?_of_mem ht
      simp [hno j t (List.getElem?_eq_some_iff.1 hj).1 hj]).symm)
    have HI : ∀ u [Later w u], Calls Try.prog 68 #[.slice A l.length c, .func (.func 48) #[] #[.pointer (some ⟨bo, 0, none⟩)]] u fun r w' => r = .returned (.int .i64 (-1)) ∧ Below u.heap.size u w' := fun u i => by haveI := (lw W).trans i; have := idxOwn_any W bo n HB A c l u (hs.below i.below) hl; rw [hi] at this; exact this
    clear hi hno
    go_enter Try.func47, Try.ntmps47
    go_wp2_with (go_at_call 68; refine (HI _).mono ?_)
    rintro r w1 ⟨rfl, hb1⟩
    go_wp2_with fail
    go_ret
    exact ⟨l, hf, rfl, hown.below hb1, hb.trans (hb1.mono hb.size)⟩
  · have hil : i < l.length := (List.getElem?_eq_some_iff.1 hx).1
    obtain ⟨g, rfl⟩ := hown.isSome (by rintro rfl; simp at hil)
    have HI : ∀ u [Later w u], Calls Try.prog 68 #[.slice (some ⟨g, 0, none⟩) l.length c, .func (.func 48) #[] #[.pointer (some ⟨bo, 0, none⟩)]] u fun r w' => r = .returned (.int .i64 (i : Int)) ∧ Below u.heap.size u w' := fun u j => by haveI := (lw W).trans j; have := idxOwn_any W bo n HB (some ⟨g, 0, none⟩) c l u (hs.below j.below) hl; rw [hi] at this; exact this
    have hcap := (hown.at_ StubE.enc).2.1
    have hi1 : ((i : Int) == -1) = false := by simp
    clear hi
    go_enter Try.func47, Try.ntmps47
    go_wp2_with (go_at_call 68; refine (HI _).mono ?_)
    rintro r w1 ⟨rfl, hb1⟩
    go_wp2_with fail
    have hown1 := hown.below hb1
    have hz1 := hb1.size
    have hb01 := hb.trans (hb1.mono hb.size)
    clear HI
    go_loopw [5, 6, 7] (fun iv jv _ wr => ∃ (a j : Nat) (cur : List StubE), a < j ∧ j ≤ l.length ∧ iv = .int .i64 a ∧ jv = .int .i64 j ∧ cur.length = l.length ∧ cur.take a = (l.take j).filter (fun t => !nown n t) ∧ cur.drop j = l.drop j ∧
      Own StubE.cells 12 37 W.heap.size wr (.slice (some ⟨g, 0, none⟩) l.length c) cur ∧ Below W.heap.size W wr) (fun _ jv _ _ => l.length - (intOf jv).toNat)
    case atStart =>
      refine ⟨i, i + 1, l, by omega, by omega, rfl, by go_num, rfl, ?_, rfl, hown1, hb01⟩
      rw [take_snoc_get hx, List.filter_append]
      have h1 : (l.take i).filter (fun t => !nown n t) = l.take i := List.filter_eq_self.2 fun t ht => by
        obtain ⟨j, hj⟩ := List.getElem?_of_mem ht
        rw [List.getElem?_take] at hj
        split at hj
        · rename_i hji; simp [hno j t hji hj]
        · cases hj
      simp [h1, hp]
    case round =>
      obtain ⟨a, j, cur, haj, hjl, rfl, rfl, hcl, htk, hdr, ho, hbr⟩ := hrel
      have Htk := hide htk
      have Hdr := hide hdr
      have Hcl := hide hcl
      clear htk hdr
      have lr := later hbr
      have hsr := (ho.at_ StubE.enc).2.2
      have hzr := hbr.size
      by_cases hlt : j < l.length
      · obtain ⟨g', o', y, e1, hyc, C1⟩ := StubE.get (k := j) hsr (by omega)
        injection e1 with e1
        injection e1 with e1 e2
        subst e1 e2
        have hy : l[j]? = some y := by
          have h1 : (cur.drop j)[0]? = (l.drop j)[0]? := by rw [Hdr.out]
          simp only [List.getElem?_drop, Nat.add_zero] at h1
          rw [← h1]; exact hyc
        have Hy := hide hy
        have Hyc := hide hyc
        clear hy hyc C1
        have e0 := ho.cell StubE.enc Hyc.out (j := 0) rfl
        have z0 := ho.free (j * 12 + 0)
        have e1 := ho.cell StubE.enc Hyc.out (j := 1) rfl
        have z1 := ho.free (j * 12 + 1)
        have e2 := ho.cell StubE.enc Hyc.out (j := 2) rfl
        have z2 := ho.free (j * 12 + 2)
        have e3 := ho.cell StubE.enc Hyc.out (j := 3) rfl
        have z3 := ho.free (j * 12 + 3)
        have e4 := ho.cell StubE.enc Hyc.out (j := 4) rfl
        have z4 := ho.free (j * 12 + 4)
        have e5 := ho.cell StubE.enc Hyc.out (j := 5) rfl
        have z5 := ho.free (j * 12 + 5)
        have e6 := ho.cell StubE.enc Hyc.out (j := 6) rfl
        have z6 := ho.free (j * 12 + 6)
        have e7 := ho.cell StubE.enc Hyc.out (j := 7) rfl
        have z7 := ho.free (j * 12 + 7)
        have e8 := ho.cell StubE.enc Hyc.out (j := 8) rfl
        have z8 := ho.free (j * 12 + 8)
        have e9 := ho.cell StubE.enc Hyc.out (j := 9) rfl
        have z9 := ho.free (j * 12 + 9)
        have e10 := ho.cell StubE.enc Hyc.out (j := 10) rfl
        have z10 := ho.free (j * 12 + 10)
        have e11 := ho.cell StubE.enc Hyc.out (j := 11) rfl
        have z11 := ho.free (j * 12 + 11)
        simp only [Nat.add_zero] at e0 z0
        have HCy : ∀ u [Later W u], Calls Try.prog 48 #[y.v, .pointer (some ⟨bo, 0, none⟩)] u fun r w' => r = .returned (.bool (nown n y)) ∧ Below u.heap.size u w' := fun u i => own1_any W bo n HB y u
        cases hp2 : nown n y <;> simp only [hp2] at HCy
        · obtain ⟨z, hz⟩ : ∃ z, cur[a]? = some z := ⟨_, List.getElem?_eq_getElem (by rw [Hcl.out]; omega)⟩
          have Hz := hide hz
          have hal : a < cur.length := by rw [Hcl.out]; omega
          clear hz
          go_upto_region 8 with fail
          refine wp_name ?_
          intro w2 hw2
          obtain ⟨B2, l2⟩ := box1 hw2
          have hbk2 := boxed_lt B2
          clear e0 z0 e1 z1 e2 z2 e3 z3 e4 z4 e5 z5 e6 z6 e7 z7 e8 z8 e9 z9 e10 z10 e11 z11 hw2
          go_upto_region 9 with (go_at_call 48; refine (HCy _).mono ?_; rintro r w3 ⟨rfl, hb3⟩)
          have l3 := later hb3
          have hz3 := hb3.size
          have ho3 := ho.later w3
          have e0 := ho3.cell StubE.enc Hz.out (j := 0) rfl
          have z0 := ho3.free (a * 12 + 0)
          have e1 := ho3.cell StubE.enc Hz.out (j := 1) rfl
          have z1 := ho3.free (a * 12 + 1)
          have e2 := ho3.cell StubE.enc Hz.out (j := 2) rfl
          have z2 := ho3.free (a * 12 + 2)
          have e3 := ho3.cell StubE.enc Hz.out (j := 3) rfl
          have z3 := ho3.free (a * 12 + 3)
          have e4 := ho3.cell StubE.enc Hz.out (j := 4) rfl
          have z4 := ho3.free (a * 12 + 4)
          have e5 := ho3.cell StubE.enc Hz.out (j := 5) rfl
          have z5 := ho3.free (a * 12 + 5)
          have e6 := ho3.cell StubE.enc Hz.out (j := 6) rfl
          have z6 := ho3.free (a * 12 + 6)
          have e7 := ho3.cell StubE.enc Hz.out (j := 7) rfl
          have z7 := ho3.free (a * 12 + 7)
          have e8 := ho3.cell StubE.enc Hz.out (j := 8) rfl
          have z8 := ho3.free (a * 12 + 8)
          have e9 := ho3.cell StubE.enc Hz.out (j := 9) rfl
          have z9 := ho3.free (a * 12 + 9)
          have e10 := ho3.cell StubE.enc Hz.out (j := 10) rfl
          have z10 := ho3.free (a * 12 + 10)
          have e11 := ho3.cell StubE.enc Hz.out (j := 11) rfl
          have z11 := ho3.free (a * 12 + 11)
          simp only [Nat.add_zero] at e0 z0
          have hgb := ho3.base_le
          have hgl := ho.lt
          go_upto_region 10 with fail
          refine wp_name ?_
          intro w9 hw9
          have hset : w3.setCells g (a * 12) y.cells = w9 := hw9
          have hg9 := setCells_grownBy g y.cells (a * 12) w3
          have ho9 := own_setStub (y := y) ho3 Hz.out
          rw [hset] at ho9 hg9
          have hb3' : Below W.heap.size W w3 := below_of
          have hb9 : Below W.heap.size W w9 := hb3'.trans (grown_belowG hg9 hgb hb3'.size)
          have l9 := later hb9
          clear e0 z0 e1 z1 e2 z2 e3 z3 e4 z4 e5 z5 e6 z6 e7 z7 e8 z8 e9 z9 e10 z10 e11 z11 hw9
          clear hset B2
          go_wp2_with fail
          go_roundw
          case rel =>
            refine ⟨a + 1, j + 1, cur.set a y, by omega, by omega, by go_num, by go_num, by rw [List.length_set]; exact Hcl.out, ?_, ?_, ho9, hb9⟩
            · rw [take_snoc_get Hy.out, List.filter_append, ← Htk.out, take_snoc_get (x := y) (List.getElem?_set_self hal), List.take_set_of_le (Nat.le_refl _)]
              simp [hp2]
            · rw [List.drop_set_of_lt (by omega), ← List.drop_drop, ← List.drop_drop, Hdr.out]
          case measure => simp [intOf]; omega
        · go_upto_region 8 with fail
          refine wp_name ?_
          intro w2 hw2
          obtain ⟨B2, l2⟩ := box1 hw2
          clear e0 z0 e1 z1 e2 z2 e3 z3 e4 z4 e5 z5 e6 z6 e7 z7 e8 z8 e9 z9 e10 z10 e11 z11 hw2
          go_wp2_with (go_at_call 48; refine (HCy _).mono ?_; rintro r w3 ⟨rfl, hb3⟩; have l3 := later hb3)
          go_roundw
          case rel =>
            refine ⟨a, j + 1, cur, by omega, by omega, rfl, by go_num, Hcl.out, ?_, ?_, ho.later _, below_of⟩
            · rw [Htk.out, take_snoc_get Hy.out, List.filter_append]; simp [hp2]
            · rw [← List.drop_drop, ← List.drop_drop, Hdr.out]
          case measure => simp [intOf]; omega
      · have hj : j = l.length := by omega
        subst hj
        obtain ⟨q, hq⟩ : ∃ q, q = l.filter fun t => !nown n t := ⟨_, rfl⟩
        have hqa : cur.take a = q := by rw [hq, Htk.out, List.take_length]
        have hqn : q.length = a := by rw [← hqa, List.length_take, Hcl.out]; omega
        have hac : (if c = a then (⟨g, 0, none⟩ : Addr) else ⟨g, a * 12, none⟩) = ⟨g, a * 12, none⟩ := if_neg (by omega)
        have HQ := hide hq
        have HQA := hide hqa
        have HQN := hide hqn
        clear hq hqa hqn
        have h0a : (0 : Int) ≤ (a : Int) := by omega
        have hacc : (a : Int) ≤ (c : Int) := by omega
        have hal : (a : Int) ≤ (l.length : Int) := by omega
        have hca : ¬ c = a := by omega
        obtain ⟨w9, hrun, ho9, hg9, hb9⟩ := run_clear_own (P := Try.prog) (ty := 0) (d := c - a) (m := l.length - a) (k := a) StubE.enc stubT zeroE.v zeroStub (by decide) rfl ho (by rw [Hcl.out]; omega) hzr
        go_wp2_with fail
        go_ret
        exact ⟨q, HQ, by rw [HQN.out]; rfl, by rw [HQN.out, ← HQA.out]; exact ho9, hbr.trans hb9⟩
def OwnedPost (w : World) (l : List StubE) (n : Int) (r : Ending) (w' : World) : Prop := ∃ q q0 A c, Hid (q0.Perm l ∧ SortedS q0 ∧ q = q0.filter fun t => !nown n t) ∧ r = .returned (.slice A q.length c) ∧ Own StubE.cells 12 37 w.heap.size w' (.slice A q.length c) q ∧ Below w.heap.size w w'
set_option maxHeartbeats 2000000 in
theorem owned_any (p g : Nat) (l : List StubE) (n : Int) (w : World) (h : TabAt w p g l) (hl : l.length ≤ 1000000) : Calls Try.prog 23 #[.pointer (some ⟨p, 0, none⟩), .int .i64 n] w (OwnedPost w l n) := by
  have hT := h.later
  go_enter Try.func23, Try.ntmps23
  go_upto_region 1 with fail
  refine wp_name ?_
  intro w0 hw0
  obtain ⟨B0, l0⟩ := box1 hw0
  have hz0 : w.heap.size ≤ w0.heap.size := (show Below w.heap.size w w0 from below_of).size
  clear hw0
  go_wp2_with (first
    | (go_at_call 12; refine (list_any p g l _ (hT _) hl).mono ?_; rintro r w1 ⟨q0, A, c, hq0, rfl, ho1, hb1⟩; have l1 := later hb1; have hq0l : q0.length ≤ 1000000 := by rw [hq0.out.1.length_eq]; exact hl)
    | (go_at_call 47; refine (delOwn_any w0 w.heap.size n B0 A c q0 _ (ho1.mono (Nat.le_refl _)) (by omega) below_of).mono ?_; rintro r w2 ⟨q, hq, rfl, ho2, hb2⟩))
  go_ret
  exact ⟨q, q0, A, c, hide ⟨hq0.out.1, hq0.out.2, hq.out⟩, rfl, ho2.mono hz0, (show Below w.heap.size w w0 from below_of).trans (hb2.mono hz0)⟩
end Go.Proofs.Ytgddapgdeaeggaa

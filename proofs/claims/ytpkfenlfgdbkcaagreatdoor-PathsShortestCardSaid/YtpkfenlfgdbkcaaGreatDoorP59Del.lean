/-
  Contracts of the functions of this seat that each theorem names: what a call returns, and that it writes nothing that was there before. The conditions stand in each theorem.
-/
import Derived.Test.YtpkfenlfgdbkcaaGreatDoorP59Num
import Derived.Test.YtpkfenlfgdbkcaaGreatDoorGrp34
set_option linter.unusedSimpArgs false
set_option linter.unusedVariables false
namespace Go.Proofs.YtpkfenlfgdbkcaaGreatDoor
open Go.RowKit
attribute [local go_sem] Oper.semAt_some Instr.makeFunc
attribute [local simp] heap_drew
attribute [local go_sem ↓] run_eql_id run_neq_id
set_option maxRecDepth 100000 in
set_option maxHeartbeats 2000000 in
theorem indexI_any (A : Option Addr) (c : Nat) (xs : List IDE) (x : IDE) (w : World) (hs : SlAt IDE.cells 2 w A xs) (hl : xs.length ≤ 1000000000) : Calls Tryz.prog 107 #[.slice A xs.length c, x.v] w fun r w' => r = .returned (.int .i64 (idxOf (fun y => decide (y = x)) xs)) ∧ Below w.heap.size w w' := by
  have HS : ∀ u [Later w u], SlAt IDE.cells 2 u A xs := fun u i => hs.below i.below
  have hl' : xs.length ≤ 9223372036854775807 := by omega
  go_enter Tryz.func107, Tryz.ntmps107
  go_upto_region 1 with fail
  refine wp_name ?_
  intro w0 hw0
  obtain ⟨B0, l0⟩ := box1 hw0
  clear hw0
  go_wp2_with fail
  go_loopw [5, 8] (fun _ iv wr => ∃ k : Nat, k ≤ xs.length ∧ iv = .int .i64 k ∧ NoneTo (fun y => decide (y = x)) xs k ∧ Below w0.heap.size w0 wr) (fun _ iv _ => xs.length - (intOf iv).toNat)
  case atStart => exact ⟨0, by omega, rfl, NoneTo.zero, Below.refl _ _⟩
  case round =>
    obtain ⟨k, hk, rfl, hno, hbr⟩ := hrel
    have lr := later hbr
    have Hno := hide hno
    clear hno
    by_cases hlt : k < xs.length
    · obtain ⟨b1, o1, y, rfl, hy, C1⟩ := IDE.get (HS wr) hlt
      have Hy := hide hy
      clear hy
      have hki : (k : Int) < (xs.length : Int) := by omega
      cases hp : ideq x.machine x.serial y.machine y.serial
      · have hne := hide (show decide (y = x) = false by rw [ideq_iff] at hp; have := of_decide_eq_false hp; exact decide_eq_false fun e => this e.symm)
        go_upto_region 4 with fail
        (refine wp_region_after (by kernel_rfl) (by kernel_rfl) ?_
         repeat (any_goals (first | go_big_quiet_skip | (go_big_quiet_want; go_big_quiet_op; first | go_big_quiet_on | go_big_quiet_call (fail)) | quiet_step (fail) | (refine wpQuiet_step (fun K hK => ?_); go_simp; split <;> (refine hK _ ?_; clear hK K))))
         all_goals (refine wpQuiet_nil ?_; intro _ hw'; obtain ⟨u', hw''⟩ := hw'; subst hw''; obtain ⟨wd, hbd⟩ := u'; simp only [After.val_mk]))
        have ld := later hbd
        go_wp2_with fail
        go_roundw
        case rel => exact ⟨k + 1, by omega, by go_num, Hno.out.succ Hy.out hne.out, below_of⟩
        case measure => simp [intOf]; omega
      · have he := hide (idxOf_hit Hy.out (show decide (y = x) = true by rw [ideq_iff] at hp; exact decide_eq_true (of_decide_eq_true hp).symm) Hno.out)
        go_upto_region 4 with fail
        (refine wp_region_after (by kernel_rfl) (by kernel_rfl) ?_
         repeat (any_goals (first | go_big_quiet_skip | (go_big_quiet_want; go_big_quiet_op; first | go_big_quiet_on | go_big_quiet_call (fail)) | quiet_step (fail) | (refine wpQuiet_step (fun K hK => ?_); go_simp; split <;> (refine hK _ ?_; clear hK K))))
         all_goals (refine wpQuiet_nil ?_; intro _ hw'; obtain ⟨u', hw''⟩ := hw'; subst hw''; obtain ⟨wd, hbd⟩ := u'; simp only [After.val_mk]))
        have ld := later hbd
        go_wp2_with fail
        go_ret
        exact ⟨ret_int he.out.symm, below_of⟩
    · have hk' : k = xs.length := by omega
      subst hk'
      have he := hide (idxOf_miss Hno.out)
      go_wp2_with fail
      go_ret
      exact ⟨ret_int he.out.symm, below_of⟩
theorem idx_ge {xs : List IDE} {x : IDE} : decide (0 ≤ idxOf (fun y => decide (y = x)) xs) = decide (x ∈ xs) := by
  rcases idxOf_cases (fun y : IDE => decide (y = x)) xs with ⟨hi, hno⟩ | ⟨k, y, hi, hx, hp, hno⟩
  · rw [hi]
    have : ¬ x ∈ xs := fun h => by
      obtain ⟨j, hj⟩ := List.getElem?_of_mem h
      have := hno j x (List.getElem?_eq_some_iff.1 hj).1 hj
      simp at this
    simp [this]
  · rw [hi]
    have : x ∈ xs := by have := List.mem_of_getElem? hx; simp at hp; exact hp ▸ this
    simp [this]
set_option maxHeartbeats 1000000 in
theorem contains_any (A : Option Addr) (c : Nat) (xs : List IDE) (x : IDE) (w : World) (hs : SlAt IDE.cells 2 w A xs) (hl : xs.length ≤ 1000000000) : Calls Tryz.prog 81 #[.slice A xs.length c, x.v] w fun r w' => r = .returned (.bool (decide (x ∈ xs))) ∧ Below w.heap.size w w' := by
  have HI : ∀ u [Later w u], Calls Tryz.prog 107 #[.slice A xs.length c, x.v] u fun r w' => r = .returned (.int .i64 (idxOf (fun y => decide (y = x)) xs)) ∧ Below u.heap.size u w' := fun u i => indexI_any A c xs x u (hs.below i.below) hl
  have hd := @idx_ge xs x
  obtain ⟨n, hn⟩ : ∃ n, idxOf (fun y => decide (y = x)) xs = n := ⟨_, rfl⟩
  rw [hn] at HI hd
  rw [← hd]
  clear hd hn
  go_enter Tryz.func81, Tryz.ntmps81
  go_wp2_with (go_at_call 107; refine (HI _).mono ?_; rintro r w1 ⟨rfl, hb1⟩; have l1 := later hb1)
  go_ret
  exact ⟨ret_bool rfl, below_of⟩
set_option maxHeartbeats 1000000 in
theorem hasI_any (A : Option Addr) (c : Nat) (xs : List IDE) (x : IDE) (w : World) (hs : SlAt IDE.cells 2 w A xs) (hl : xs.length ≤ 1000000000) : Calls Tryz.prog 46 #[.slice A xs.length c, x.v] w fun r w' => r = .returned (.bool (decide (x ∈ xs))) ∧ Below w.heap.size w w' := by
  have HI : ∀ u [Later w u], Calls Tryz.prog 81 #[.slice A xs.length c, x.v] u fun r w' => r = .returned (.bool (decide (x ∈ xs))) ∧ Below u.heap.size u w' := fun u i => contains_any A c xs x u (hs.below i.below) hl
  generalize decide (x ∈ xs) = n at HI ⊢
  go_enter Tryz.func46, Tryz.ntmps46
  go_wp2_with (go_at_call 81; refine (HI _).mono ?_; rintro r w1 ⟨rfl, hb1⟩; have l1 := later hb1)
  go_ret
  exact ⟨rfl, below_of⟩
set_option maxHeartbeats 1000000 in
theorem minus1_any (W : World) (gb : Nat) (BA : Option Addr) (bc : Nat) (bs : List IDE) (HB : ∀ u [Later W u], u.cell? ⟨gb, 0, none⟩ = some (.slice BA bs.length bc)) (HBs : ∀ u [Later W u], SlAt IDE.cells 2 u BA bs) (hbl : bs.length ≤ 1000000) (pB : IDE → Bool) (hpB : ∀ y, pB y = decide (y ∈ bs)) (y : IDE) (w : World) [lWw : Later W w] :
    Calls Tryz.prog 76 #[y.v, .pointer (some ⟨gb, 0, none⟩)] w fun r w' => r = .returned (.bool (pB y)) ∧ Below w.heap.size w w' := by
  have HI : ∀ u, Later W u → Calls Tryz.prog 46 #[.slice BA bs.length bc, y.v] u fun r w' => r = .returned (.bool (pB y)) ∧ Below u.heap.size u w' := fun u i => by rw [hpB]; exact hasI_any BA bc bs y u (HBs u) (by omega)
  generalize pB y = n at HI ⊢
  go_enter Tryz.func76, Tryz.ntmps76
  go_wp2_with (go_at_call 46; refine (HI _ inferInstance).mono ?_; rintro r w1 ⟨rfl, hb1⟩; have l1 := later hb1)
  go_ret
  exact ⟨rfl, below_of⟩
set_option maxRecDepth 100000 in
set_option maxHeartbeats 2000000 in
theorem idxDel_any (gb : Nat) (p : IDE → Bool) (A : Option Addr) (c : Nat) (xs : List IDE) (W w : World) [kW : Later W w] (hl : xs.length ≤ 1000000000) (hs : SlAt IDE.cells 2 w A xs) (HC : ∀ (u : World) [Later W u] (x : IDE), x ∈ xs → Calls Tryz.prog 76 #[x.v, .pointer (some ⟨gb, 0, none⟩)] u fun r w' => r = .returned (.bool (p x)) ∧ Below u.heap.size u w') :
    Calls Tryz.prog 103 #[.slice A xs.length c, .func (.func 76) #[] #[.pointer (some ⟨gb, 0, none⟩)]] w fun r w' => r = .returned (.int .i64 (idxOf p xs)) ∧ Below w.heap.size w w' := by
  have hl' : xs.length ≤ 9223372036854775807 := by omega
  go_enter Tryz.func103, Tryz.ntmps103
  go_wp2_with fail
  go_loopw [5, 8] (fun _ i wr => ∃ k : Nat, k ≤ xs.length ∧ i = .int .i64 k ∧ NoneTo p xs k ∧ Below w.heap.size w wr) (fun _ i _ => xs.length - (intOf i).toNat)
  case atStart => exact ⟨0, by omega, rfl, NoneTo.zero, Below.refl _ _⟩
  case round =>
    obtain ⟨k, hk, rfl, hno, hbr⟩ := hrel
    have lr := later hbr
    have Hno := hide hno
    clear hno
    by_cases hlt : k < xs.length
    · obtain ⟨g, o, x, rfl, hx, C1⟩ := IDE.get (hs.below hbr) hlt
      have Hx := hide hx
      have HCn := fun (u : World) (i : Later W u) => HC u x (List.mem_of_getElem? hx)
      clear HC hx
      cases hp : p x <;> simp only [hp] at HCn
      · go_wp2_with (go_at_call 76; refine (HCn _ inferInstance).mono ?_; rintro r w1 ⟨rfl, hb1⟩; have l1 := later hb1)
        go_roundw
        case rel => exact ⟨k + 1, by omega, by go_num, Hno.out.succ Hx.out hp, below_of⟩
        case measure => simp [intOf]; omega
      · have HI := hide (idxOf_hit Hx.out hp Hno.out)
        go_wp2_with (go_at_call 76; refine (HCn _ inferInstance).mono ?_; rintro r w1 ⟨rfl, hb1⟩; have l1 := later hb1)
        go_ret
        exact ⟨ret_int HI.out.symm, below_of⟩
    · have hk' : k = xs.length := by omega
      subst hk'
      have HI := hide (idxOf_miss Hno.out)
      go_wp2_with fail
      go_ret
      exact ⟨ret_int HI.out.symm, below_of⟩
set_option maxRecDepth 100000 in
set_option maxHeartbeats 2000000 in
theorem delI_any (W : World) (gb : Nat) (BA : Option Addr) (bc : Nat) (bs : List IDE) (HB : ∀ u [Later W u], u.cell? ⟨gb, 0, none⟩ = some (.slice BA bs.length bc)) (HBs : ∀ u [Later W u], SlAt IDE.cells 2 u BA bs) (hbl : bs.length ≤ 1000000) (pB : IDE → Bool) (hpB : ∀ y, pB y = decide (y ∈ bs)) (A : Option Addr) (c : Nat) (l : List IDE) (base : Nat) (w : World) (hown : Own IDE.cells 2 24 base w (.slice A l.length c) l) (hl : l.length ≤ 1000000000) (hb : base ≤ w.heap.size) [lWw : Later W w] (hWb : W.heap.size ≤ base) :
    Calls Tryz.prog 75 #[.slice A l.length c, .func (.func 76) #[] #[.pointer (some ⟨gb, 0, none⟩)]] w fun r w' => ∃ q, Hid (q = l.filter fun t => !pB t) ∧ r = .returned (.slice A q.length c) ∧ Own IDE.cells 2 24 base w' (.slice A q.length c) q ∧ Below base w w' := by
  have hs := (hown.at_ IDE.enc).2.2
  rcases idxOf_cases pB l with ⟨hi, hno⟩ | ⟨i, x, hi, hx, hp, hno⟩
  · have hf := hide (show l = l.filter fun t => !pB t from (List.filter_eq_self.2 fun t ht => by
      obtain ⟨j, hj⟩ := List.getElem?_of_mem ht
      simp [hno j t (List.getElem?_eq_some_iff.1 hj).1 hj]).symm)
    have HI : ∀ u [Later w u], Calls Tryz.prog 103 #[.slice A l.length c, .func (.func 76) #[] #[.pointer (some ⟨gb, 0, none⟩)]] u fun r w' => r = .returned (.int .i64 (-1)) ∧ Below u.heap.size u w' := fun u i => by haveI := lWw.trans i; have := idxDel_any gb pB A c l W u (by omega) (hs.below i.below) (fun v j y _ => minus1_any W gb BA bc bs HB HBs hbl pB hpB y v); rw [hi] at this; exact this
    clear hi hno
    go_enter Tryz.func75, Tryz.ntmps75
    go_wp2_with (go_at_call 103; refine (HI _).mono ?_)
    rintro r w1 ⟨rfl, hb1⟩
    go_wp2_with fail
    go_ret
    exact ⟨l, hf, rfl, hown.below hb1, hb1.mono hb⟩
  · have hil : i < l.length := (List.getElem?_eq_some_iff.1 hx).1
    obtain ⟨g, rfl⟩ := hown.isSome (by rintro rfl; simp at hil)
    have HI : ∀ u [Later w u], Calls Tryz.prog 103 #[.slice (some ⟨g, 0, none⟩) l.length c, .func (.func 76) #[] #[.pointer (some ⟨gb, 0, none⟩)]] u fun r w' => r = .returned (.int .i64 (i : Int)) ∧ Below u.heap.size u w' := fun u i => by haveI := lWw.trans i; have := idxDel_any gb pB (some ⟨g, 0, none⟩) c l W u (by omega) (hs.below i.below) (fun v j y _ => minus1_any W gb BA bc bs HB HBs hbl pB hpB y v); rw [hi] at this; exact this
    have hcap := (hown.at_ IDE.enc).2.1
    have hi1 : ((i : Int) == -1) = false := by simp
    clear hi
    go_enter Tryz.func75, Tryz.ntmps75
    go_wp2_with (go_at_call 103; refine (HI _).mono ?_)
    rintro r w1 ⟨rfl, hb1⟩
    go_wp2_with fail
    have hown1 := hown.below hb1
    have hz1 := hb1.size
    go_loopw [5, 6, 7] (fun iv jv _ wr => ∃ (a j : Nat) (cur : List IDE), a < j ∧ j ≤ l.length ∧ iv = .int .i64 a ∧ jv = .int .i64 j ∧ cur.length = l.length ∧ cur.take a = (l.take j).filter (fun t => !pB t) ∧ cur.drop j = l.drop j ∧
      Own IDE.cells 2 24 base wr (.slice (some ⟨g, 0, none⟩) l.length c) cur ∧ Below base w wr) (fun _ jv _ _ => l.length - (intOf jv).toNat)
    case atStart =>
      refine ⟨i, i + 1, l, by omega, by omega, rfl, by go_num, rfl, ?_, rfl, hown1, hb1.mono hb⟩
      rw [take_snoc_get hx, List.filter_append]
      have h1 : (l.take i).filter (fun t => !pB t) = l.take i := List.filter_eq_self.2 fun t ht => by
        obtain ⟨j, hj⟩ := List.getElem?_of_mem ht
        rw [List.getElem?_take] at hj
        split at hj
        · rename_i hji; simp [hno j t hji hj]
        · cases hj
      simp [h1, hp]
    case round =>
      obtain ⟨a, j, cur, haj, hjl, rfl, rfl, hcl, htk, hdr, ho, hbr⟩ := hrel
      have Htk := hide htk
      have Hdr := hide hdr
      have Hcl := hide hcl
      clear htk hdr
      have hsr := (ho.at_ IDE.enc).2.2
      have hzr := hbr.size
      by_cases hlt : j < l.length
      · obtain ⟨y, hy⟩ : ∃ y, l[j]? = some y := ⟨_, List.getElem?_eq_getElem hlt⟩
        have hyc : cur[j]? = some y := by
          have h1 : (cur.drop j)[0]? = (l.drop j)[0]? := by rw [Hdr.out]
          simpa [hy] using h1
        obtain ⟨g', o', e1, C1, C2⟩ := id_at hsr hyc
        injection e1 with e1
        injection e1 with e1 e2
        subst e1 e2
        simp only [Nat.zero_add] at C1 C2
        have Hy := hide hy
        clear hy
        have lWr : Later W wr := later_from hbr W hWb
        have HCy : ∀ u, Later W u → Calls Tryz.prog 76 #[.agg #[.int .i64 y.machine, .int .i64 y.serial], .pointer (some ⟨gb, 0, none⟩)] u fun r w' => r = .returned (.bool (pB y)) ∧ Below u.heap.size u w' := fun u i => minus1_any W gb BA bc bs HB HBs hbl pB hpB y u
        cases hp2 : pB y <;> simp only [hp2] at HCy
        · obtain ⟨z, hz⟩ : ∃ z, cur[a]? = some z := ⟨_, List.getElem?_eq_getElem (by rw [Hcl.out]; omega)⟩
          have Hz := hide hz
          have hal : a < cur.length := by rw [Hcl.out]; omega
          clear hz
          go_upto_region 8 with fail
          refine wp_name ?_
          intro w2 hw2
          obtain ⟨B2, l2⟩ := box1 hw2
          have hbk2 := boxed_lt B2
          clear hw2
          go_upto_region 9 with (go_at_call 76; refine (HCy _ inferInstance).mono ?_)
          intro r w3 h3
          (first | (have hb3 := h3.2; have he3 := h3.1; clear h3; subst he3) | (intro hb3; subst h3))
          have l3 := later hb3
          have hz3 := hb3.size
          have ho3 := ho.later w3
          have e0 := ho3.cell IDE.enc Hz.out (j := 0) rfl
          have e1 := ho3.cell IDE.enc Hz.out (j := 1) rfl
          have z0 := ho3.free (a * 2)
          have z1 := ho3.free (a * 2 + 1)
          have hgb := ho3.base_le
          have hgl := ho.lt
          simp only [Nat.add_zero] at e0
          go_upto_region 10 with fail
          refine wp_name ?_
          intro w9 hv9
          have hb9 : Below base w w9 := by
            rw [← hv9]
            exact ((hbr.trans (((below_of (b := wr) (w := w3))).mono (Nat.le_trans hb hzr))).setCell (by simp; omega) _).setCell (by simp; omega) _
          have ho9 := (ho3.store IDE.enc (j := 0) (u := .int .i64 y.machine) (x' := { z with machine := y.machine }) Hz.out (by omega) rfl).store IDE.enc (j := 1) (u := .int .i64 y.serial) (x' := y) (List.getElem?_set_self hal) (by omega) rfl
          rw [List.set_set] at ho9
          simp only [Nat.add_zero] at ho9
          rw [hv9] at ho9
          have l9 : Later w9 w9 := Later.refl
          clear hv9 e0 e1 z0 z1 B2 C1 C2
          go_wp2_with fail
          go_roundw
          case rel =>
            refine ⟨a + 1, j + 1, cur.set a y, by omega, by omega, by go_num, by go_num, by rw [List.length_set]; exact Hcl.out, ?_, ?_, ho9, hb9⟩
            · rw [take_snoc_get Hy.out, List.filter_append, ← Htk.out, take_snoc_get (x := y) (List.getElem?_set_self hal), List.take_set_of_le (Nat.le_refl _)]
              simp [hp2]
            · rw [List.drop_set_of_lt (by omega), ← List.drop_drop, ← List.drop_drop, Hdr.out]
          case measure => simp [intOf]; omega
        · go_wp2_with (go_at_call 76; refine (HCy _ inferInstance).mono ?_)
          intro r w3 h3
          (first | (have hb3 := h3.2; have he3 := h3.1; clear h3; subst he3) | (intro hb3; subst h3))
          have hb3' : Below wr.heap.size wr w3 := ((Below.refl _ _).alloc (Nat.le_refl _) _).trans (hb3.mono (by simp))
          go_wp2_with fail
          go_roundw
          case rel =>
            refine ⟨a, j + 1, cur, by omega, by omega, rfl, by go_num, Hcl.out, ?_, ?_, ho.below hb3', hbr.trans (hb3'.mono (Nat.le_trans hb hzr))⟩
            · rw [Htk.out, take_snoc_get Hy.out, List.filter_append]; simp [hp2]
            · rw [← List.drop_drop, ← List.drop_drop, Hdr.out]
          case measure => simp [intOf]; omega
      · have hj : j = l.length := by omega
        subst hj
        obtain ⟨q, hq⟩ : ∃ q, q = l.filter fun t => !pB t := ⟨_, rfl⟩
        have hqa : cur.take a = q := by rw [hq, Htk.out, List.take_length]
        have hqn : q.length = a := by rw [← hqa, List.length_take, Hcl.out]; omega
        have hac : (if c = a then (⟨g, 0, none⟩ : Addr) else ⟨g, a * 2, none⟩) = ⟨g, a * 2, none⟩ := if_neg (by omega)
        have HQ := hide hq
        have HQA := hide hqa
        have HQN := hide hqn
        clear hq hqa hqn
        have h0a : (0 : Int) ≤ (a : Int) := by omega
        have hacc : (a : Int) ≤ (c : Int) := by omega
        have hal : (a : Int) ≤ (l.length : Int) := by omega
        have hca : ¬ c = a := by omega
        obtain ⟨w9, hrun, ho9, hg9, hb9⟩ := run_clear_own (P := Tryz.prog) (ty := 0) (d := c - a) (m := l.length - a) (k := a) IDE.enc idT (.agg #[.int .i64 0, .int .i64 0]) zeroId (by decide) rfl ho (by rw [Hcl.out]; omega) (Nat.le_trans hb hzr)
        go_wp2_with fail
        go_ret
        exact ⟨q, HQ, by rw [HQN.out]; rfl, by rw [HQN.out, ← HQA.out]; exact ho9, hbr.trans hb9⟩
def MinusPost (a b : List IDE) (w : World) (r : Ending) (w' : World) : Prop := ∃ q A c, Hid (q = (setI a).filter fun x => !decide (x ∈ b)) ∧ r = .returned (.slice A q.length c) ∧ Own IDE.cells 2 24 w.heap.size w' (.slice A q.length c) q ∧ Below w.heap.size w w'
theorem setI_len (l : List IDE) : (setI l).length ≤ l.length := by
  have h : ∀ (l a : List IDE), (l.foldl putI a).length ≤ a.length + l.length := by
    intro l
    induction l with
    | nil => intro a; simp
    | cons x l ih =>
      intro a
      have h1 := ih (putI a x)
      have h2 := putI_len a x
      simp only [List.foldl_cons, List.length_cons] at h1 ⊢
      omega
  have := h l []
  simpa [setI] using this
set_option maxRecDepth 100000 in
set_option maxHeartbeats 2000000 in
theorem minusI_any (A : Option Addr) (c : Nat) (a : List IDE) (B : Option Addr) (d : Nat) (b : List IDE) (w : World) (hA : SlAt IDE.cells 2 w A a) (hB : SlAt IDE.cells 2 w B b) (hl : a.length ≤ 1000000) (hm : b.length ≤ 1000000) :
    Calls Tryz.prog 44 #[.slice A a.length c, .slice B b.length d] w (MinusPost a b w) := by
  have HA : ∀ u [Later w u], SlAt IDE.cells 2 u A a := fun u i => hA.below i.below
  have HBs : ∀ u [Later w u], SlAt IDE.cells 2 u B b := fun u i => hB.below i.below
  have HS : ∀ u [Later w u], Calls Tryz.prog 45 #[.slice A a.length c] u (SetIPost a u) := fun u i => setI_any A c a u (HA u) (by omega)
  go_enter Tryz.func44, Tryz.ntmps44
  go_upto_region 1 with fail
  refine wp_name ?_
  intro w0 hw0
  obtain ⟨B0, l0⟩ := box1 hw0
  have l00 : Later w0 w0 := Later.refl
  clear hw0
  have HB : ∀ u [Later w0 u], u.cell? ⟨w.heap.size, 0, none⟩ = some (.slice B b.length d) := fun u i => ((B0 u).2 0).1
  have HB2 : ∀ u [Later w0 u], SlAt IDE.cells 2 u B b := fun u i => by haveI := (l0 w).trans i; exact HBs u
  have hw00 : w.heap.size ≤ w0.heap.size := (l0 w).below.size
  go_wp2_with (go_at_call 45; refine (HS _).mono ?_)
  rintro r w1 ⟨q, A1, c1, hq, rfl, ho1, hb1⟩
  have l1 : Later w0 w1 := ⟨hb1⟩
  have hql : q.length ≤ 1000000 := by rw [hq.out]; have := setI_len a; omega
  go_wp2_with (go_at_call 75; refine (delI_any w0 w.heap.size B d b HB HB2 hm (fun y => decide (y ∈ b)) (fun y => rfl) A1 c1 q w0.heap.size w1 ho1 (by omega) hb1.size (Nat.le_refl _)).mono ?_)
  rintro r w2 ⟨q2, hq2, rfl, ho2, hb2⟩
  go_wp2_with fail
  go_ret
  have hb0 : Below w.heap.size w w0 := (l0 w).below
  exact ⟨q2, A1, c1, hide (by rw [hq2.out, hq.out]), rfl, ho2.mono hw00, (hb0.trans (hb1.mono hw00)).trans (hb2.mono hw00)⟩
end Go.Proofs.YtpkfenlfgdbkcaaGreatDoor

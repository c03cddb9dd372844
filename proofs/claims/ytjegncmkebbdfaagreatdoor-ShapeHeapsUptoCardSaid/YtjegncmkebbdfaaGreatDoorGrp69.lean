/-
  Small texts of this seat, put into one. Conditions stand in each theorem.
-/
import Derived.Test.YtjegncmkebbdfaaGreatDoorGrp68
import Derived.Test.YtjegncmkebbdfaaGreatDoorF16Union
import Derived.Deep.RegionHeld3
set_option linter.unusedSimpArgs false
set_option linter.unusedVariables false
namespace Go.Proofs.YtjegncmkebbdfaaGreatDoor
open Go.RowKit
attribute [local simp] heap_drew
set_option maxHeartbeats 800000 in
attribute [local go_sem ↓] run_neq_IDE in
theorem sameIDs_any (aA : Option Addr) (aC : Nat) (a : List IDE) (bA : Option Addr) (bC : Nat) (b : List IDE) (w : World) (ha : SlAt IDE.cells 2 w aA a) (hb : SlAt IDE.cells 2 w bA b) (hal : a.length ≤ 9223372036854775807) (_ : b.length ≤ 9223372036854775807) :
    Calls Tryz.prog 19 #[.slice aA a.length aC, .slice bA b.length bC] w fun r w' => ∃ q : Bool, r = .returned (.bool q) ∧ (q = true ↔ a = b) ∧ Below w.heap.size w w' := by
  by_cases hl : a.length = b.length
  rotate_left
  · have hl' : ¬ (a.length : Int) = (b.length : Int) := by omega
    have Hl := hide hl
    clear hl
    go_enter Tryz.func19, Tryz.ntmps19
    go_wp2
    go_ret
    exact ⟨false, rfl, ⟨(fun h => by cases h), fun h => absurd (congrArg List.length h) Hl.out⟩, Below.refl _ _⟩
  have Hl := hide hl
  have hl' : ((a.length : Int) != (b.length : Int)) = false := by simp [hl]
  clear hl
  have Ha := ha.later
  have Hb := hb.later
  go_enter Tryz.func19, Tryz.ntmps19
  go_wp2
  go_loopw [5] (fun i wr => ∃ k : Nat, k ≤ a.length ∧ i = .int .i64 k ∧ (∀ (j : Nat) (x y : IDE), j < k → a[j]? = some x → b[j]? = some y → x = y) ∧ Below w.heap.size w wr) (fun i _ => a.length - (intOf i).toNat)
  case atStart => exact ⟨0, by omega, rfl, fun j _ _ h => absurd h (by omega), Below.refl _ _⟩
  case round =>
    obtain ⟨k, hk, rfl, hall, hbw⟩ := hrel
    have lr := later hbw
    by_cases hlt : k < a.length
    · have hlt2 : k < b.length := by rw [← Hl.out]; exact hlt
      obtain ⟨g1, o1, x, rfl, hx, C1⟩ := IDE.get (Ha wr) hlt
      obtain ⟨g2, o2, y, rfl, hy, C2⟩ := IDE.get (Hb wr) hlt2
      have Hall := hide hall
      have Hx := hide hx
      have Hy := hide hy
      clear hall hx hy
      go_wp2
      (refine wp_region_after (by kernel_rfl) (by kernel_rfl) ?_
       repeat (any_goals (first | go_big_quiet_skip | (go_big_quiet_want; go_big_quiet_op; first | go_big_quiet_on | go_big_quiet_call (fail)) | quiet_step (fail) | (refine wpQuiet_step (fun K hK => ?_); go_simp; split <;> (refine hK _ ?_; clear hK K))))
       all_goals (refine wpQuiet_nil ?_; intro _ hw'; obtain ⟨u', hw''⟩ := hw'; subst hw''; obtain ⟨wd, hbd⟩ := u'; simp only [After.val_mk]))
      have ld := later hbd
      cases hxy : IDE.beq x y
      · go_wp2_with fail
        go_ret
        exact ⟨false, rfl, ⟨(fun h => by cases h), fun h => by
          have hx := Hx.out
          have hy := Hy.out
          rw [h, hy] at hx
          injection hx with hx
          rw [IDE.beq_iff.2 hx.symm] at hxy
          cases hxy⟩, hbw.trans (hbd.mono hbw.size)⟩
      · go_wp2_with fail
        go_roundw
        case rel => exact ⟨k + 1, by omega, by go_num, fun j x' y' hj hx' hy' => by
          rcases Nat.lt_or_ge j k with h | h
          · exact Hall.out j x' y' h hx' hy'
          · have : j = k := by omega
            subst this
            have hx := Hx.out
            have hy := Hy.out
            rw [hx] at hx'; injection hx' with hx'
            rw [hy] at hy'; injection hy' with hy'
            rw [← hx', ← hy']
            exact IDE.beq_iff.1 hxy, hbw.trans (hbd.mono hbw.size)⟩
        case measure => simp [intOf]; omega
    · have hk' : k = a.length := by omega
      subst hk'
      have Hall := hide hall
      clear hall
      go_wp2
      go_ret
      exact ⟨true, rfl, ⟨fun _ => eq_to Hl.out fun j x y hx hy => Hall.out j x y (List.getElem?_eq_some_iff.1 hx).1 hx hy, fun _ => rfl⟩, hbw⟩
theorem strC.get {w : World} {A : Option Addr} {l : List (List UInt8)} (h : SlAt strC 1 w A l) {k : Nat} (hk : k < l.length) : ∃ b off x, A = some ⟨b, off, none⟩ ∧ l[k]? = some x ∧ ∀ u [Later w u], u.cell? ⟨b, off + k, none⟩ = some (.string (bs x)) := by
  obtain ⟨b, off, x, hA, hb, hx, hc⟩ := h.at_ hk
  refine ⟨b, off, x, hA, hx, fun u i => ?_⟩
  have := cell_below (hc 0 _ rfl) i.below
  simpa using this
theorem bs_beq (x y : List UInt8) : ((bs x).toList == (bs y).toList) = decide (x = y) := by
  rw [Lib.toList_data, Lib.toList_data]
  by_cases h : x = y <;> simp [h]
theorem bs_inj {x y : List UInt8} (h : bs x = bs y) : x = y := by
  have := congrArg ByteArray.data h
  simpa using congrArg Array.toList this
set_option maxHeartbeats 800000 in
theorem sameLines_any (aA : Option Addr) (aC : Nat) (a : List (List UInt8)) (bA : Option Addr) (bC : Nat) (b : List (List UInt8)) (w : World) (ha : SlAt strC 1 w aA a) (hb : SlAt strC 1 w bA b) (hal : a.length ≤ 1000000000) (hbl : b.length ≤ 1000000000) :
    Calls Tryz.prog 21 #[.slice aA a.length aC, .slice bA b.length bC] w fun r w' => r = .returned (.bool (decide (a = b))) ∧ Below w.heap.size w w' := by
  have hal' : a.length ≤ 9223372036854775807 := by omega
  have hbl' : b.length ≤ 9223372036854775807 := by omega
  obtain ⟨R, hR⟩ : ∃ R, R = decide (a = b) := ⟨_, rfl⟩
  rw [← hR]
  have HR := hide hR
  clear hR
  by_cases hl : a.length = b.length
  rotate_left
  · have hl' : ((a.length : Int) != (b.length : Int)) = true := by simp; omega
    have hr := hide (show R = false by rw [HR.out]; exact decide_eq_false fun h => hl (by rw [h]))
    clear hl
    go_enter Tryz.func21, Tryz.ntmps21
    go_wp2_with fail
    go_ret
    exact ⟨ret_bool hr.out.symm, Below.refl _ _⟩
  have Hl := hide hl
  have hl' : ((a.length : Int) != (b.length : Int)) = false := by simp [hl]
  clear hl
  have Ha : ∀ u [Later w u], SlAt strC 1 u aA a := fun u i => ha.below i.below
  have Hb : ∀ u [Later w u], SlAt strC 1 u bA b := fun u i => hb.below i.below
  go_enter Tryz.func21, Tryz.ntmps21
  go_wp2_with fail
  go_loopw [5] (fun i wr => ∃ k : Nat, k ≤ a.length ∧ i = .int .i64 k ∧ (∀ (j : Nat) (x y : List UInt8), j < k → a[j]? = some x → b[j]? = some y → x = y) ∧ Below w.heap.size w wr) (fun i _ => a.length - (intOf i).toNat)
  case atStart => exact ⟨0, by omega, rfl, fun j _ _ h => absurd h (by omega), Below.refl _ _⟩
  case round =>
    obtain ⟨k, hk, rfl, hall, hbw⟩ := hrel
    have lr := later hbw
    have Hall := hide hall
    clear hall
    by_cases hlt : k < a.length
    · have hlt2 : k < b.length := by rw [← Hl.out]; exact hlt
      have hki : (k : Int) < (a.length : Int) := by omega
      have hki2 : (k : Int) < (b.length : Int) := by omega
      obtain ⟨g1, o1, x, rfl, hx, C1⟩ := strC.get (Ha wr) hlt
      obtain ⟨g2, o2, y, rfl, hy, C2⟩ := strC.get (Hb wr) hlt2
      have Hx := hide hx
      have Hy := hide hy
      clear hx hy
      by_cases hxy : x = y
      · have hne : (x == y) = true := by simp [hxy]
        have Hxy := hide hxy
        clear hxy
        go_upto_region 6 with fail
        (refine wp_region_after (by kernel_rfl) (by kernel_rfl) ?_
         repeat (any_goals (first | go_big_quiet_skip | (go_big_quiet_want; go_big_quiet_op; first | go_big_quiet_on | go_big_quiet_call (fail)) | quiet_step (fail) | (refine wpQuiet_step (fun K hK => ?_); go_simp; split <;> (refine hK _ ?_; clear hK K))))
         all_goals (refine wpQuiet_nil ?_; intro _ hw'; obtain ⟨u', hw''⟩ := hw'; subst hw''; obtain ⟨wd, hbd⟩ := u'; simp only [After.val_mk]))
        have ld := later hbd
        go_wp2_with fail
        go_roundw
        case rel => exact ⟨k + 1, by omega, by go_num, fun j x' y' hj hx' hy' => by
          rcases Nat.lt_or_ge j k with h | h
          · exact Hall.out j x' y' h hx' hy'
          · have : j = k := by omega
            subst this
            rw [Hx.out] at hx'; injection hx' with hx'
            rw [Hy.out] at hy'; injection hy' with hy'
            rw [← hx', ← hy']; exact Hxy.out, hbw.trans (hbd.mono hbw.size)⟩
        case measure => simp [intOf]; omega
      · have hne : (x == y) = false := by simp [hxy]
        have hr := hide (show R = false by
          rw [HR.out]; refine decide_eq_false fun h => hxy ?_
          have h1 := Hx.out
          rw [h, Hy.out] at h1
          injection h1 with h1
          exact h1.symm)
        clear hxy
        go_upto_region 6 with fail
        (refine wp_region_after (by kernel_rfl) (by kernel_rfl) ?_
         repeat (any_goals (first | go_big_quiet_skip | (go_big_quiet_want; go_big_quiet_op; first | go_big_quiet_on | go_big_quiet_call (fail)) | quiet_step (fail) | (refine wpQuiet_step (fun K hK => ?_); go_simp; split <;> (refine hK _ ?_; clear hK K))))
         all_goals (refine wpQuiet_nil ?_; intro _ hw'; obtain ⟨u', hw''⟩ := hw'; subst hw''; obtain ⟨wd, hbd⟩ := u'; simp only [After.val_mk]))
        have ld := later hbd
        go_wp2_with fail
        go_ret
        exact ⟨ret_bool hr.out.symm, hbw.trans (hbd.mono hbw.size)⟩
    · have hk' : k = a.length := by omega
      subst hk'
      have hr := hide (show R = true by rw [HR.out]; exact decide_eq_true (eq_to Hl.out fun j x y hx hy => Hall.out j x y (List.getElem?_eq_some_iff.1 hx).1 hx hy))
      go_wp2_with fail
      go_ret
      exact ⟨ret_bool hr.out.symm, hbw⟩
end Go.Proofs.YtjegncmkebbdfaaGreatDoor

namespace Go.Proofs.YtjegncmkebbdfaaGreatDoor
open Go.RowKit
attribute [local go_sem ↓] run_eql_id run_neq_id
attribute [local simp] heap_drew
theorem take_map_snoc {α β : Type} {f : α → β} {l : List α} {k : Nat} {x : α} (h : l[k]? = some x) : (l.take (k + 1)).map f = (l.take k).map f ++ [f x] := by
  rw [List.take_add_one, h]
  simp
set_option maxRecDepth 100000 in
set_option maxHeartbeats 8000000 in
theorem format_any (A : Option Addr) (c : Nat) (l : List NodeE) (w : World) (h : Tab10 w) (H : NodesAt w A l) (hl : l.length ≤ 10000) (hf : ∀ n ∈ l, n.fields.length ≤ 1000000000) : Calls Tryz.prog 22 #[.agg #[.slice A l.length c]] w (FmtPost (conL l) w) := by
  have HL := H.later
  have HT := h.later
  have HV : ∀ u [Later w u], Calls Tryz.prog 18 #[.agg #[.slice A l.length c]] u fun r w' => r = .returned (.bool (valid16B (conL l))) ∧ Below u.heap.size u w' := fun u i => validS_any A c l u (HL u) (by omega) hf
  have hl' : l.length ≤ 9223372036854775807 := by omega
  cases hv : valid16B (conL l) <;> simp only [hv] at HV
  · have hp := hide (show ([] : List (List UInt8)) = linesB (conL l) by unfold linesB; rw [hv]; rfl)
    go_enter Tryz.func22, Tryz.ntmps22
    go_upto_region 1 with fail
    refine wp_name ?_
    intro w0 hw0
    obtain ⟨B0, l0⟩ := box1 hw0
    clear hw0
    go_wp2_with (go_at_call 18; refine (HV _).mono ?_; rintro r w1 ⟨rfl, hb1⟩; have l1 := later hb1)
    go_ret
    exact ⟨[], none, 0, hp, rfl, Own.nil, below_of⟩
  have hval := valid16_node hv
  have hlines := hide (show linesB (conL l) = (conL l).map lineB by unfold linesB; rw [hv]; rfl)
  clear hv
  go_enter Tryz.func22, Tryz.ntmps22
  go_upto_region 1 with fail
  refine wp_name ?_
  intro w0 hw0
  obtain ⟨B0, l0⟩ := box1 hw0
  clear hw0
  go_wp2_with (go_at_call 18; refine (HV _).mono ?_; rintro r w1 ⟨rfl, hb1⟩; have l1 := later hb1)
  go_loopw [3, 16] (fun ov iv wr => ∃ (k : Nat) (o : List (List UInt8)) (OA : Option Addr) (OC : Nat), k ≤ l.length ∧ ov = .slice OA o.length OC ∧ iv = .int .i64 k ∧ Hid (o = ((conL l).take k).map lineB) ∧ Own strC 1 9 w.heap.size wr (.slice OA o.length OC) o ∧ Below w.heap.size w wr) (fun _ iv _ => l.length - (intOf iv).toNat)
  case atStart => exact ⟨0, [], none, 0, by omega, rfl, rfl, hide rfl, Own.nil, below_of⟩
  case round =>
    obtain ⟨k, o, OA, OC, hk, rfl, rfl, ho, hown, hbr⟩ := hrel
    have lr := later hbr
    have lrr : Later wr wr := Later.refl
    have hol : o.length ≤ 10000 := by rw [ho.out, List.length_map, List.length_take]; unfold conL; rw [List.length_map]; omega
    by_cases hlt : k < l.length
    · have hki : (k : Int) < (l.length : Int) := by omega
      obtain ⟨b1, o1, n, rfl, hn, C1, F1, hf1, hf2⟩ := (HL wr).get hlt
      generalize n.A = nA at C1 F1
      have hcon : (conL l)[k]? = some n.con := by unfold conL; rw [List.getElem?_map, hn]; rfl
      have Hn := hide (take_map_snoc (f := lineB) hcon)
      have hnv := hval n.con (List.mem_of_getElem? hcon)
      obtain ⟨m1, m2, m3⟩ := validNode_more hnv
      obtain ⟨hkd, -, hfv⟩ := validNode_kind hnv
      obtain ⟨D1, D2, D3, D4, D5, D6, D7, S1, S2, S3, S4, S5, S6, S7, E3, E4, hjl⟩ := line_parts n.con hnv
      have HN : ∀ u [Later wr u], Calls Tryz.prog 51 #[.agg #[.int .i64 n.iDMachine, .int .i64 n.iDSerial]] u fun r w' => r = .returned (.string (bs (nameB n.con.id))) ∧ Below u.heap.size u w' := fun u i => by haveI := (lr w).trans i; exact name_any n.con.id (idOk_of m1) u (HT u)
      have HK : ∀ u : World, Calls Tryz.prog 52 #[.int .i64 n.kind] u fun r w' => r = .returned (.string (bs (kindNmB n.con.kind))) ∧ Below u.heap.size u w' := fun u => kindNm_any n.kind (by rcases hkd with h | h | h | h; exact .inl h; exact .inr (.inl h); exact .inr (.inr (.inl h)); exact .inr (.inr (.inr (.inl h)))) u
      have HI : ∀ u [Later wr u], Calls Tryz.prog 53 #[.int .i64 n.clas] u fun r w' => r = .returned (.string (bs (Lib.itoa n.con.clas))) ∧ Below u.heap.size u w' := fun u i => by haveI := (lr w).trans i; exact itoa_any m2 u (HT u)
      have HTX : ∀ (v : ValE), v ∈ n.fields → ∀ u [Later wr u], Calls Tryz.prog 54 #[v.v] u fun r w' => r = .returned (.string (bs (textB v))) ∧ Below u.heap.size u w' := fun v hv u i => by haveI := (lr w).trans i; exact text_any v (valOk_of (hfv v hv)) u (HT u)
      obtain ⟨J, hJ⟩ : ∃ J, J = bs (Lib.join (n.con.fields.map textB) [44, 32]) := ⟨_, rfl⟩
      rw [← hJ] at S5
      have HJJ := hide hJ
      have Hjl := hide hjl
      generalize bs (nameB n.con.id) = X1 at HN S1
      generalize bs (kindNmB n.con.kind) = X2 at HK S2
      generalize bs (Lib.itoa n.con.clas) = X3 at HI S4
      have hnf : n.fields.length ≤ 30 := m3
      clear hn hcon hnv m1 m2 m3 hkd hfv hJ hjl
      go_upto_region 7 with fail
      refine wp_name ?_
      intro w5 hw5
      obtain ⟨B5, l5⟩ := box1 hw5
      clear hw5
      have hfn : n.con.fields = n.fields := rfl
      (refine wp_region_after (by kernel_rfl) (by kernel_rfl) ?_
       repeat (any_goals (first | go_big_quiet_skip | (go_big_quiet_want; go_big_quiet_op; first | go_big_quiet_on | go_big_quiet_call ((first | (go_at_call 51; exact Calls.after (HN _)) | (go_at_call 52; exact Calls.after (HK _)) | (go_at_call 53; exact Calls.after (HI _))))) | quiet_step ((first | (go_at_call 51; exact Calls.after (HN _)) | (go_at_call 52; exact Calls.after (HK _)) | (go_at_call 53; exact Calls.after (HI _)))) | (refine wpQuiet_step (fun K hK => ?_); go_simp; split <;> (refine hK _ ?_; clear hK K))))
       all_goals (refine wpQuiet_nil ?_; intro _ hw'; obtain ⟨u', hw''⟩ := hw'; subst hw''; obtain ⟨wd, hbd⟩ := u'; simp only [After.val_mk]))
      have ld := later hbd
      by_cases h3 : n.kind = 3
      · have hE := hide (E3.out h3)
        have h3b : (n.kind != 3) = false := by simp [h3]
        clear h3 E3 E4
        go_wp2_with (at_builtin; refine wpList_app1 rfl (.tmp 55) (.tmp 57) rfl strC.enc strT (lineB n.con) rfl rfl rfl (hown.later _) (by rw [strC]; exact congrArg (fun z => [Value.string z]) (hE.out)) (by omega) (by unfold maxLen; omega) (below_of (b := w)).size ?_; intro A9 c9 w9 ho9 hm9 hb9 hg9 hat9)
        have hb9w : Below w.heap.size w w9 := (below_of (b := w) (w := wd)).trans hb9
        have l9 := later hb9w
        have hlk : (o ++ [lineB n.con]).length = o.length + 1 := by simp
        go_roundw
        case rel => exact ⟨k + 1, o ++ [lineB n.con], A9, c9, by omega, by rw [hlk], by go_num, hide (by rw [Hn.out, ho.out]), by rw [hlk]; exact ho9.below below_of, below_of⟩
        case measure => simp [intOf]; omega
      · have hE := hide (E4.out h3)
        have h3b : (n.kind != 3) = true := by simp [h3]
        clear h3 E3 E4
        have HTX2 : ∀ (v : ValE), v ∈ n.fields → ∀ u [Later wd u], Calls Tryz.prog 54 #[v.v] u fun r w' => r = .returned (.string (bs (textB v))) ∧ Below u.heap.size u w' := fun v hv u i => by haveI := (ld wr).trans i; exact HTX v hv u
        have F2 : ∀ u [Later wd u], SlAt ValE.cells 4 u nA n.fields := fun u i => by haveI := (ld wr).trans i; exact F1 u
        have lwd : Later w wd := by infer_instance
        clear HTX F1
        go_wp2_with fail
        go_loopw [7, 39] (fun pv jv wr => ∃ (j : Nat) (p : List (List UInt8)) (PA : Option Addr) (PC : Nat), j ≤ n.fields.length ∧ pv = .slice PA p.length PC ∧ jv = .int .i64 j ∧ Hid (p = (n.fields.take j).map textB) ∧ Own strC 1 9 wd.heap.size wr (.slice PA p.length PC) p ∧ Below wd.heap.size wd wr) (fun _ jv _ => n.fields.length - (intOf jv).toNat)
        case atStart => exact ⟨0, [], none, 0, by omega, rfl, rfl, hide rfl, Own.nil, Below.refl _ _⟩
        case round =>
          obtain ⟨j, p, PA, PC, hj, rfl, rfl, hp, hpo, hbj⟩ := hrel
          have lj := later hbj
          have ljj : Later wr wr := Later.refl
          have hpl : p.length ≤ 30 := by rw [hp.out, List.length_map, List.length_take]; omega
          by_cases hjt : j < n.fields.length
          · have hji : (j : Int) < (n.fields.length : Int) := by omega
            obtain ⟨b3, o3, v, rfl, hv, V1⟩ := ValE.get (F2 wr) hjt
            have HTv := HTX2 v (List.mem_of_getElem? hv)
            have Hv := hide (take_map_snoc (f := textB) hv)
            clear hv
            go_wp2_with (first | (go_at_call 54; refine (HTv _).mono ?_; rintro r w6 ⟨rfl, hb6⟩; have l6 := later hb6) | (at_builtin; refine wpList_app1 rfl (.tmp 43) (.tmp 46) rfl strC.enc strT (textB v) rfl rfl rfl (hpo.later _) (by rfl) (by omega) (by unfold maxLen; omega) (below_of (b := wd)).size ?_; intro A7 c7 w7 ho7 hm7 hb7 hg7 hat7))
            have hb7w : Below wd.heap.size wd w7 := (below_of (b := wd) (w := w6)).trans hb7
            have l7 := later hb7w
            have hlk : (p ++ [textB v]).length = p.length + 1 := by simp
            go_roundw
            case rel => exact ⟨j + 1, p ++ [textB v], A7, c7, by omega, by rw [hlk], by go_num, hide (by rw [Hv.out, hp.out]), by rw [hlk]; exact ho7.below below_of, below_of⟩
            case measure => simp [intOf]; omega
          · have hjj : j = n.fields.length := by omega
            subst hjj
            have hpall : p = n.con.fields.map textB := by rw [hp.out, List.take_length]; rfl
            have hJc : ∀ u [Later wr u], Calls Tryz.prog 55 #[.slice PA p.length PC, .string ⟨#[44, 32]⟩] u fun r w' => r = .returned (.string J) ∧ Below u.heap.size u w' := fun u i => by
              rw [HJJ.out, ← hpall]
              exact joinS_any PA PC p [44, 32] u (hpo.later u) (by omega) (by rw [hpall]; have := Hjl.out; omega)
            clear hpall hp
            go_upto_region 16 with (go_at_call 55; refine (hJc _).mono ?_; rintro r w8 ⟨rfl, hb8⟩; have l8 := later hb8)
            go_wp2_with (at_builtin; refine wpList_app1 rfl (.tmp 55) (.tmp 57) rfl strC.enc strT (lineB n.con) rfl rfl rfl (hown.later _) (by rw [strC]; exact congrArg (fun z => [Value.string z]) (hE.out)) (by omega) (by unfold maxLen; omega) (below_of (b := w)).size ?_; intro A9 c9 w9 ho9 hm9 hb9 hg9 hat9)
            have hb9w : Below w.heap.size w w9 := (below_of (b := w) (w := w8)).trans hb9
            have l9 := later hb9w
            have hlk : (o ++ [lineB n.con]).length = o.length + 1 := by simp
            go_roundw
            case rel => exact ⟨k + 1, o ++ [lineB n.con], A9, c9, by omega, by rw [hlk], by go_num, hide (by rw [Hn.out, ho.out]), by rw [hlk]; exact ho9.below below_of, below_of⟩
            case measure => simp [intOf]; omega
    · have hkk : k = l.length := by omega
      subst hkk
      have hoo := hide (show o = linesB (conL l) by rw [ho.out, hlines.out]; congr 1; rw [List.take_of_length_le]; unfold conL; rw [List.length_map]; exact Nat.le_refl _)
      go_wp2_with fail
      go_ret
      exact ⟨o, OA, OC, hoo, rfl, hown.below below_of, below_of⟩
end Go.Proofs.YtjegncmkebbdfaaGreatDoor

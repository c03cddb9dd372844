/-
  Contracts of the functions of this seat that each theorem names: what a call returns, and that it writes nothing that was there before. The conditions stand in each theorem.
-/
import Derived.Test.YtjegncmkebbdfaaDoorF16Fmt16
import Derived.Deep.RegionHeld3
set_option linter.unusedSimpArgs false
set_option linter.unusedVariables false
namespace Go.Proofs.YtjegncmkebbdfaaDoor
open Go.RowKit
attribute [local go_sem ↓] run_eql_id run_neq_id
attribute [local simp] heap_drew
set_option maxRecDepth 100000 in
set_option maxHeartbeats 8000000 in
theorem format16_any (A : Option Addr) (c : Nat) (l : List NodeE) (w : World) (H : NodesAt w A l) (hl : l.length ≤ 10000) (hf : ∀ n ∈ l, n.fields.length ≤ 1000000000) : Calls Tryd.prog 23 #[.agg #[.slice A l.length c]] w (FmtPost (conL l) w) := by
  have HL := H.later
  have HV : ∀ u [Later w u], Calls Tryd.prog 9 #[.agg #[.slice A l.length c]] u fun r w' => r = .returned (.bool (valid16B (conL l))) ∧ Below u.heap.size u w' := fun u i => valid16_any A c l u (HL u) (by omega) hf
  have hl' : l.length ≤ 9223372036854775807 := by omega
  cases hv : valid16B (conL l) <;> simp only [hv] at HV
  · have hp := hide (show ([] : List (List UInt8)) = linesB (conL l) by unfold linesB; rw [hv]; rfl)
    go_enter Tryd.func23, Tryd.ntmps23
    go_upto_region 1 with fail
    refine wp_name ?_
    intro w0 hw0
    obtain ⟨B0, l0⟩ := box1 hw0
    have hsz : w.heap.size ≤ w0.heap.size := (l0 w).below.size
    clear hw0
    go_upto_region 2 with fail
    refine wp_name ?_
    intro w1 hw1
    obtain ⟨BE, l1⟩ := box1 hw1
    clear hw1
    have hE : ∀ u [Later w1 u], Own strC 1 9 w0.heap.size u (.slice (some ⟨w0.heap.size, 0, none⟩) 0 0) [] := fun u i => Own.empty_blk (Nat.le_refl _) (BE u).1
    have l11 : Later w1 w1 := Later.refl
    clear BE
    go_wp2_with (go_at_call 9; refine (HV _).mono ?_; rintro r w2 ⟨rfl, hb2⟩; have l2 := later hb2)
    go_ret
    exact ⟨[], _, 0, hp, rfl, (hE _).mono hsz, below_of⟩
  have hval := valid16_node hv
  have hlines := hide (show linesB (conL l) = (conL l).map lineB by unfold linesB; rw [hv]; rfl)
  clear hv
  go_enter Tryd.func23, Tryd.ntmps23
  go_upto_region 1 with fail
  refine wp_name ?_
  intro w0 hw0
  obtain ⟨B0, l0⟩ := box1 hw0
  have hsz : w.heap.size ≤ w0.heap.size := (l0 w).below.size
  clear hw0
  go_upto_region 2 with fail
  refine wp_name ?_
  intro w1 hw1
  obtain ⟨BE, l1⟩ := box1 hw1
  clear hw1
  have hE : ∀ u [Later w1 u], Own strC 1 9 w0.heap.size u (.slice (some ⟨w0.heap.size, 0, none⟩) 0 0) [] := fun u i => Own.empty_blk (Nat.le_refl _) (BE u).1
  have l11 : Later w1 w1 := Later.refl
  clear BE
  go_wp2_with (go_at_call 9; refine (HV _).mono ?_; rintro r w2 ⟨rfl, hb2⟩; have l2 := later hb2)
  have lw0 : Later w w0 := l0 w
  go_loopw [3, 4] (fun ov iv wr => ∃ (k : Nat) (o : List (List UInt8)) (OA : Option Addr) (OC : Nat), k ≤ l.length ∧ ov = .slice OA o.length OC ∧ iv = .int .i64 k ∧ Hid (o = ((conL l).take k).map lineB) ∧ Own strC 1 9 w0.heap.size wr (.slice OA o.length OC) o ∧ Below w0.heap.size w0 wr) (fun _ iv _ => l.length - (intOf iv).toNat)
  case atStart => exact ⟨0, [], _, 0, by omega, rfl, rfl, hide rfl, hE _, below_of⟩
  case round =>
    clear hE l2 hb2 l1 l11 w2 w1
    obtain ⟨k, o, OA, OC, hk, rfl, rfl, ho, hown, hbr⟩ := hrel
    have lr := later hbr
    have lrr : Later wr wr := Later.refl
    have hol : o.length ≤ 10000 := by rw [ho.out, List.length_map, List.length_take]; unfold conL; rw [List.length_map]; omega
    by_cases hlt : k < l.length
    · have hki : (k : Int) < (l.length : Int) := by omega
      obtain ⟨b1, o1, n, rfl, hn, C1, F1, hf1, hf2⟩ := (HL wr).get hlt
      generalize n.A = nA at C1 F1
      have hcon : (conL l)[k]? = some n.con := by unfold conL; rw [List.getElem?_map, hn]; rfl
      have Hn := hide (take_map_snoc (f := lineB) hcon)
      have hnv := hval n.con (List.mem_of_getElem? hcon)
      obtain ⟨m1, m2, m3⟩ := validNode_more hnv
      have hfv := (validNode_kind hnv).2.2
      obtain ⟨D1, D2, D3, D4, D5, S1, S2, S3, S4, S5, E4, E5⟩ := head_parts n.con hnv
      have HN : ∀ u : World, Calls Tryd.prog 44 #[.agg #[.int .i64 n.iDMachine, .int .i64 n.iDSerial]] u fun r w' => r = .returned (.string (bs (nameB n.con.id))) ∧ Below u.heap.size u w' := fun u => idText_any n.con.id (idOk_of m1) u
      have HK : ∀ u : World, Calls Tryd.prog 45 #[.int .i64 n.kind] u fun r w' => r = .returned (.string (bs (kindNmB n.con.kind))) ∧ Below u.heap.size u w' := fun u => kindNm5_any n.kind u
      have HI : ∀ u : World, Calls Tryd.prog 46 #[.int .i64 n.clas] u fun r w' => r = .returned (.string (bs (Lib.itoa n.con.clas))) ∧ Below u.heap.size u w' := fun u => decimal_any n.clas m2 u
      have HTX : ∀ (v : ValE), v ∈ n.fields → ∀ u : World, Calls Tryd.prog 47 #[v.v] u fun r w' => r = .returned (.string (bs (textB v))) ∧ Below u.heap.size u w' := fun v hv u => text16_any v (valOk_of (hfv v hv)) u
      generalize bs (nameB n.con.id) = X1 at HN S1
      generalize bs (kindNmB n.con.kind) = X2 at HK S2
      generalize bs (Lib.itoa n.con.clas) = X3 at HI S4
      have hnf : n.fields.length ≤ 30 := m3
      have Hnv := hide hnv
      clear hn hcon hnv m1 m2 m3 hfv
      go_upto_region 8 with fail
      refine wp_name ?_
      intro w5 hw5
      obtain ⟨B5, l5⟩ := box1 hw5
      clear hw5
      have hfn : n.con.fields = n.fields := rfl
      (refine wp_region_after (by kernel_rfl) (by kernel_rfl) ?_
       repeat (any_goals (first | go_big_quiet_skip | (go_big_quiet_want; go_big_quiet_op; first | go_big_quiet_on | go_big_quiet_call ((first | (go_at_call 44; exact Calls.after (HN _)) | (go_at_call 45; exact Calls.after (HK _)) | (go_at_call 46; exact Calls.after (HI _))))) | quiet_step ((first | (go_at_call 44; exact Calls.after (HN _)) | (go_at_call 45; exact Calls.after (HK _)) | (go_at_call 46; exact Calls.after (HI _)))) | (refine wpQuiet_step (fun K hK => ?_); go_simp; split <;> (refine hK _ ?_; clear hK K))))
       all_goals (refine wpQuiet_nil ?_; intro _ hw'; obtain ⟨u', hw''⟩ := hw'; subst hw''; obtain ⟨wd, hbd⟩ := u'; simp only [After.val_mk]))
      have ld := later hbd
      by_cases h3 : n.kind = 3
      · have hE := hide (show D4 = bs (lineB n.con) by rw [E4.out, lineB_stub h3])
        have h3b : (n.kind != 3) = false := by simp [h3]
        clear h3 E4 E5
        go_wp2_with (at_builtin; refine wpList_app1 rfl (.tmp 64) (.tmp 66) rfl strC.enc strT (lineB n.con) rfl rfl rfl (hown.later _) (by rw [strC]; exact congrArg (fun z => [Value.string z]) (hE.out)) (by omega) (by unfold maxLen; omega) (below_of (b := w0)).size ?_; intro A9 c9 w9 ho9 hm9 hb9 hg9 hat9)
        have hb9w : Below w0.heap.size w0 w9 := (below_of (b := w0) (w := wd)).trans hb9
        have l9 := later hb9w
        have hlk : (o ++ [lineB n.con]).length = o.length + 1 := by simp
        go_roundw
        case rel => exact ⟨k + 1, o ++ [lineB n.con], A9, c9, by omega, by rw [hlk], by go_num, hide (by rw [Hn.out, ho.out]), by rw [hlk]; exact ho9.below below_of, below_of⟩
        case measure => simp [intOf]; omega
      · have h3b : (n.kind != 3) = true := by simp [h3]
        have H3 := hide h3
        have F2 : ∀ u [Later wd u], SlAt ValE.cells 4 u nA n.fields := fun u i => by haveI := (ld wr).trans i; exact F1 u
        have lwd : Later w0 wd := by infer_instance
        clear F1 h3 E4
        go_wp2_with fail
        go_loopw [6, 7] (fun zv jv wr => ∃ (j : Nat) (z : ByteArray), j ≤ n.fields.length ∧ zv = .string z ∧ jv = .int .i64 j ∧ Hid (z = bs (piecesB n.con j)) ∧ Below wd.heap.size wd wr) (fun _ jv _ => n.fields.length - (intOf jv).toNat)
        case atStart => exact ⟨0, D5, by omega, rfl, rfl, E5, Below.refl _ _⟩
        case round =>
          clear S1 S2 S3 S4 S5 E5 HN HK HI
          obtain ⟨j, z, hj, rfl, rfl, hz, hbj⟩ := hrel
          have lj := later hbj
          have ljj : Later wr wr := Later.refl
          by_cases hjt : j < n.fields.length
          · have hji : (j : Int) < (n.fields.length : Int) := by omega
            obtain ⟨b3, o3, v, rfl, hv, V1⟩ := ValE.get (F2 wr) hjt
            have HTv := HTX v (List.mem_of_getElem? hv)
            obtain ⟨z1, z2, R1, R0, hz2⟩ := round_parts n.con Hnv.out (k := j) (v := v) hv hz.out
            generalize bs (textB v) = tv at HTv R1 R0
            clear hv hz HTX
            by_cases hj0 : 0 < j
            · have hj1 : (0 : Int) < (j : Int) := by omega
              obtain ⟨R1a, R1b⟩ := R1 hj0
              clear R1 R0
              go_wp2_with (go_at_call 47; refine (HTv _).mono ?_; rintro r w6 ⟨rfl, hb6⟩; have l6 := later hb6)
              go_roundw
              case rel => exact ⟨j + 1, z2, by omega, rfl, by go_num, hz2, below_of⟩
              case measure => simp [intOf]; omega
            · have hj1 : ¬ (0 : Int) < (j : Int) := by omega
              have R0a := R0 (by omega)
              clear R1 R0
              go_wp2_with (go_at_call 47; refine (HTv _).mono ?_; rintro r w6 ⟨rfl, hb6⟩; have l6 := later hb6)
              go_roundw
              case rel => exact ⟨j + 1, z2, by omega, rfl, by go_num, hz2, below_of⟩
              case measure => simp [intOf]; omega
          · have hjj : j = n.fields.length := by omega
            subst hjj
            obtain ⟨zE, SE, hE⟩ := last_part n.con Hnv.out H3.out hz.out
            clear hz HTX
            go_wp2_with (at_builtin; refine wpList_app1 rfl (.tmp 64) (.tmp 66) rfl strC.enc strT (lineB n.con) rfl rfl rfl (hown.later _) (by rw [strC]; exact congrArg (fun z => [Value.string z]) (hE.out)) (by omega) (by unfold maxLen; omega) (below_of (b := w0)).size ?_; intro A9 c9 w9 ho9 hm9 hb9 hg9 hat9)
            have hb9w : Below w0.heap.size w0 w9 := (below_of (b := w0) (w := wr)).trans hb9
            have l9 := later hb9w
            have hlk : (o ++ [lineB n.con]).length = o.length + 1 := by simp
            go_roundw
            case rel => exact ⟨k + 1, o ++ [lineB n.con], A9, c9, by omega, by rw [hlk], by go_num, hide (by rw [Hn.out, ho.out]), by rw [hlk]; exact ho9.below below_of, below_of⟩
            case measure => simp [intOf]; omega
    · have hkk : k = l.length := by omega
      subst hkk
      have hoo := hide (show o = linesB (conL l) by rw [ho.out, hlines.out]; congr 1; rw [List.take_of_length_le]; unfold conL; rw [List.length_map]; exact Nat.le_refl _)
      go_wp2_with fail
      go_ret
      exact ⟨o, OA, OC, hoo, rfl, (hown.below below_of).mono hsz, below_of⟩
end Go.Proofs.YtjegncmkebbdfaaDoor

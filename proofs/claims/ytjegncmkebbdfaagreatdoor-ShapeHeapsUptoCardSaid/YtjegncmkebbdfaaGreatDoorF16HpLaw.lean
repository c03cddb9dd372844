/-
  Contracts of the functions of this seat that each theorem names: what a call returns, and that it writes nothing that was there before. The conditions stand in each theorem.
-/
import Derived.Test.YtjegncmkebbdfaaGreatDoorHOf
import Derived.Test.YtjegncmkebbdfaaGreatDoorHPut2
import Derived.Test.YtjegncmkebbdfaaGreatDoorF16Closed
import Derived.Test.YtjegncmkebbdfaaGreatDoorF16Eq
set_option linter.unusedSimpArgs false
set_option linter.unusedVariables false
namespace Go.Proofs.YtjegncmkebbdfaaGreatDoor
open Go.RowKit
attribute [local go_sem ↓] run_eql_id run_neq_id
attribute [local simp] heap_drew
/-- A graph in memory with these nodes. -/
def Spec.gr (L : List NodeC) : Spec := ⟨fun v w => ∃ (o : List NodeE) (OA : Option Addr) (OC : Nat), v = .agg #[.slice OA o.length OC] ∧ Hid (conL o = L) ∧ NodesAt w OA o, fun _ _ _ lt ⟨o, OA, OC, h1, h2, h3⟩ => ⟨o, OA, OC, h1, h2, h3.below lt.below⟩⟩
set_option maxRecDepth 100000 in
set_option maxHeartbeats 16000000 in
theorem lawHeaps_any (A : Option Addr) (c : Nat) (l : List NodeE) (w : World) (h : Tab10 w) (H : NodesAt w A l) (ht : cntG l ≤ 1000000000) :
    Calls Tryz.prog 5 #[.agg #[.slice A l.length c]] w fun r w' => r = .returned (.bool true) ∧ Below w.heap.size w w' := by
  have HN := H.later
  have HT := h.later
  have lww : Later w w := Later.refl
  have HA : ∀ u [Later w u], Calls Tryz.prog 7 #[] u fun r w' => r = .returned (.bool true) ∧ Below u.heap.size u w' := fun u i => awake_any u (HT u)
  have HF : ∀ u [Later w u], Calls Tryz.prog 6 #[.slice (some ⟨u.heap.size, 0, none⟩) 1 1] (u.alloc (.cells #[.slice A l.length c] 27 (0, 0))) fun r w' => r = .returned (.bool (decide (cntG l ≤ 200))) ∧ Below (u.alloc (.cells #[.slice A l.length c] 27 (0, 0))).heap.size (u.alloc (.cells #[.slice A l.length c] 27 (0, 0))) w' := fun u i => few_one A c l _ _ (heap_alloc_new _ _) (HN _) ht
  cases hfw : decide (cntG l ≤ 200) with
  | false =>
    simp only [hfw] at HF
    clear hfw
    go_enter Tryz.func5, Tryz.ntmps5
    go_upto_region 1 with fail
    refine wp_name ?_
    intro w1 hw1
    obtain ⟨B0, l1⟩ := box1 hw1
    clear hw1
    go_wp2_with (first | (go_at_call 6; refine (HF _).mono ?_; rintro r w2 ⟨rfl, hb2⟩; have l2 := later hb2) | (go_at_call 7; refine (HA _).mono ?_; rintro r w3 ⟨rfl, hb3⟩; have l3 := later hb3))
    go_ret
    exact ⟨rfl, below_of⟩
  | true =>
    simp only [hfw] at HF
    have h200 := of_decide_eq_true hfw
    obtain ⟨hl2, hf2⟩ := cnt_bounds h200
    clear hfw
    have HC : ∀ u [Later w u], Calls Tryz.prog 11 #[.agg #[.slice A l.length c]] u (ClosedPost l u) := fun u i => closed16_any A c l u (HN u) (by omega) (fun n hn => by have := hf2 n hn; omega)
    have HP : ∀ u [Later w u], ClosedG l → Calls Tryz.prog 13 #[.agg #[.slice A l.length c]] u (HPutPost l u) := fun u i hC => put_any A c l u (HN u) hC h200
    unfold HPutPost at HP
    have HEq : ∀ (x : List NodeE) (XA : Option Addr) (XC : Nat) (u : World) [Later w u], NodesAt u XA x → Hid (conL x = conL l) → Calls Tryz.prog 10 #[.agg #[.slice XA x.length XC], .agg #[.slice A l.length c]] u fun r w' => r = .returned (.bool true) ∧ Below u.heap.size u w' := fun x XA XC u i hx hh => by
      have hxl : x.length = l.length := by have := congrArg List.length hh.out; unfold conL at this; rwa [List.length_map, List.length_map] at this
      have := equal16_any XA XC x A c l u hx (HN u) (by omega) (by omega) (fun n hn => by
        have h1 : n.con ∈ conL l := by rw [← hh.out]; exact List.mem_map_of_mem hn
        obtain ⟨m, hm, he⟩ := List.mem_map.1 h1
        have h2 := hf2 m hm
        have h3 : m.fields = n.fields := congrArg NodeC.fields he
        rw [← h3]
        omega) (fun n hn => by have := hf2 n hn; omega)
      rw [decide_eq_true hh.out] at this
      exact this
    go_enter Tryz.func5, Tryz.ntmps5
    go_upto_region 1 with fail
    refine wp_name ?_
    intro w1 hw1
    obtain ⟨B0, l1⟩ := box1 hw1
    have l11 : Later w1 w1 := Later.refl
    clear hw1
    go_upto_region 3 with (first | (go_at_call 6; refine (HF _).mono ?_; rintro r w2 ⟨rfl, hb2⟩; have l2 := later hb2) | (go_at_call 7; refine (HA _).mono ?_; rintro r w3 ⟨rfl, hb3⟩; have l3 := later hb3) | (go_at_call 11; refine (HC _).mono ?_; rintro r w4 ⟨b4, rfl, hc4, hb4⟩; have l4 := later hb4; cases b4))
    · go_ret
      exact ⟨rfl, below_of⟩
    have hC := hc4.out (by simp)
    have hL1 : ∀ n ∈ conL l, NodeOk n := fun n hn => ⟨valid16_node hC.valid n hn⟩
    have l14 : Later w1 w4 := ⟨below_of⟩
    have lw4 : Later w w4 := ⟨below_of⟩
    have l44 : Later w4 w4 := Later.refl
    clear hc4 l4 l2 l1 hb4 hb2 HF HC
    go_wp2_with fail
    go_loopw [23] (fun kv wr => ∃ k : Nat, k ≤ l.length ∧ kv = .int .i64 k ∧ Hid (∀ n ∈ l.take k, n.kind = 3 → 1 ≤ n.clas) ∧ Below w4.heap.size w4 wr) (fun kv _ => l.length - (intOf kv).toNat)
    case atStart => exact ⟨0, Nat.zero_le _, rfl, hide (fun n hn => by simp at hn), Below.refl _ _⟩
    case round =>
      obtain ⟨k, hk, rfl, hcl, hbr⟩ := hrel
      have l4r : Later w4 wr := ⟨hbr⟩
      have l1r : Later w1 wr := l14.trans l4r
      have lwr : Later w wr := lw4.trans l4r
      have lrr : Later wr wr := Later.refl
      by_cases hlt : k < l.length
      · obtain ⟨gx, ox, n, rfl, hn, NC, -, -⟩ := (HN w).get hlt
        have hki : (k : Int) < (l.length : Int) := by omega
        have hnk := (hL1 n.con (List.mem_map_of_mem (List.mem_of_getElem? hn))).kinds
        have hsn : (n.kind = 3 → 1 ≤ n.clas) → Hid (∀ m ∈ l.take (k + 1), m.kind = 3 → 1 ≤ m.clas) := fun hh => hide (fun m hm => by
          rw [List.take_add_one, hn, List.mem_append] at hm
          rcases hm with hm | hm
          · exact hcl.out m hm
          · simp at hm
            subst hm
            exact hh)
        go_upto_region 6 with fail
        refine wp_name ?_
        intro w5 hw5
        obtain ⟨B4, l5⟩ := box1 hw5
        have l55 : Later w5 w5 := Later.refl
        have lw5 : Later w w5 := l5 w
        have l45 : Later w4 w5 := l5 w4
        clear hw5 l5
        by_cases hc0 : n.clas = 0
        · have hcb : (n.clas == 0) = true := by rw [beq_iff_eq]; exact hc0
          by_cases hk3 : n.kind = 3
          · have hkb : (n.kind == 3) = true := by rw [beq_iff_eq]; exact hk3
            clear hc0 hk3 hnk hsn
            go_wp2_with (go_at_call 7; refine (HA _).mono ?_; rintro r w6 ⟨rfl, hb6⟩; have l6 := later hb6)
            go_ret
            exact ⟨rfl, below_of⟩
          · have hkb : (n.kind == 3) = false := by rw [beq_eq_false_iff_ne]; exact hk3
            have hs := hsn (fun e => absurd e hk3)
            clear hc0 hk3 hnk hsn
            go_wp2_with fail
            go_roundw
            case rel => exact ⟨k + 1, by omega, by go_num, hs, below_of⟩
            case measure => simp [intOf]; omega
        · have hcb : (n.clas == 0) = false := by rw [beq_eq_false_iff_ne]; exact hc0
          have hs := hsn (fun e => by
            rcases hnk with ⟨hk, -⟩ | ⟨hk, -⟩ | ⟨-, h0, -⟩
            · have e' : n.con.kind = 3 := e
              rcases hk with hk | hk <;> omega
            · have e' : n.con.kind = 3 := e
              omega
            · have h0' : 0 ≤ n.clas := h0
              omega)
          clear hc0 hnk hsn
          go_wp2_with fail
          go_roundw
          case rel => exact ⟨k + 1, by omega, by go_num, hs, below_of⟩
          case measure => simp [intOf]; omega
      have hk' : k = l.length := by omega
      subst hk'
      rw [List.take_length] at hcl
      go_upto_region 10 with (go_at_call 13; refine (HP _ hC).mono ?_; rintro r w6 ⟨P, PA, pc, AA, ac, rfl, hpp, hsl, hb6⟩; have l6 := later hb6)
      have lr6 : Later wr w6 := ⟨below_of⟩
      have lw6 : Later w w6 := lwr.trans lr6
      have ld6 : Later w6 w6.drew := ⟨(Below.refl _ _).drew⟩
      have l16 : Later w1 w6 := l1r.trans lr6
      have HLl : (conL l).length = l.length := by unfold conL; rw [List.length_map]
      have hrefs : ∀ n ∈ conL l, ∀ f ∈ n.fields, f.kind = 2 → ∃ m ∈ conL l, m.id = f.ref := fun n hn f hf hk => by
        obtain ⟨n', hn', rfl⟩ := List.mem_map.1 hn
        obtain ⟨m, hm, he⟩ := hC.refs n' hn' f hf hk
        exact ⟨m.con, List.mem_map_of_mem hm, he⟩
      have hstc : ∀ n ∈ conL l, n.kind = 3 → 1 ≤ n.clas := fun n hn hk => by
        obtain ⟨n', hn', rfl⟩ := List.mem_map.1 hn
        exact hcl.out n' hn' hk
      have HOf : ∀ u, Later w6 u → Calls Tryz.prog 16 #[spP P.gh] u (OfPost (conL l) u) := fun u i => of_any (P := hpW P PA pc (setG (conL l) l.length)) u hL1 (hpp.later u) (by rw [HLl]) hstc hrefs (valid16_sorted hC.valid) (by rw [HLl]; omega)
      unfold OfPost at HOf
      have HVv : ∀ (j : Nat) (n : NodeE), l[j]? = some n → ∀ u [Later w6 u], Calls Tryz.prog 15 #[spP P.gh, .int .u64 (adW (offW (conL l) j))] u fun r w' => r = .returned (.agg #[.int .i64 2, .int .i64 0, .int .i64 n.iDMachine, .int .i64 n.iDSerial]) ∧ Below u.heap.size u w' := fun j n hj u i => by
        have hj' : (conL l)[j]? = some n.con := by unfold conL; rw [List.getElem?_map, hj]; rfl
        exact shapeValue_ad (P := hpW P PA pc (setG (conL l) l.length)) (hpp.later u) (setG_objs hL1 l.length (by rw [HLl]; exact Nat.le_refl _) j _ hj') (hdF_ok (hL1 _ (List.mem_of_getElem? hj'))).2
      have HG0 : ∀ u, Later w6.drew u → u.cell? ⟨w.heap.size, 0, none⟩ = some (.slice A l.length c) := fun u lu => by
        have i : Later w1 u := l16.trans (ld6.trans lu)
        exact ((B0 u).2 0).1
      have HWu : ∀ u, Later w6.drew u → Later w u := fun u lu => lw6.trans (ld6.trans lu)
      clear hpp hC hrefs hstc hcl HP
      refine wp_region_inv (last := 9) (R := specR [.is (.bool true), .is (.bool false), .is (.bool false), .is (spP P.gh), Spec.gr (conL l), .is (.agg #[.slice A l.length c]), .is (.bool true), .is (.bool false), .is (.bool false)]) (by kernel_rfl) (specR_mono _) (by kernel_rfl) (by kernel_rfl) (steps_all ?_) ?_ ?_
      · refine ⟨?_, ?_, ?_, ?_, ?_, ?_, ?_, ?_, ?_, trivial⟩
        · intro hne a u lu hN hO K hK
          (try simp only [Nat.zero_add, Nat.reduceAdd] at hN hK)
          have e0 : a.tmps.getD 7 undef = .bool true := (hO 7 (out_get (by kernel_rfl))).trans rfl
          simp only [Array.getD_eq_getD_getElem?] at e0
          rw [if_pos (by rfl)]
          go_simp
          exact hK _ _ Later.refl rfl
        · intro hne a u lu hN hO K hK
          (try simp only [Nat.zero_add, Nat.reduceAdd] at hN hK)
          have e0 : a.tmps.getD 43 undef = .bool true := hN 0 (needs_get (by kernel_rfl))
          simp only [Array.getD_eq_getD_getElem?] at e0
          rw [if_pos (by rfl)]
          go_simp
          exact hK _ _ Later.refl rfl
        · intro hne a u lu hN hO K hK
          (try simp only [Nat.zero_add, Nat.reduceAdd] at hN hK)
          have e0 : a.tmps.getD 44 undef = .bool false := hN 1 (needs_get (by kernel_rfl))
          simp only [Array.getD_eq_getD_getElem?] at e0
          rw [if_pos (by rfl)]
          go_simp
          exact hK _ _ Later.refl rfl
        · intro hne a u lu hN hO K hK
          (try simp only [Nat.zero_add, Nat.reduceAdd] at hN hK)
          have e0 : a.tmps.getD 5 undef = spP P.gh := (hO 5 (out_get (by kernel_rfl))).trans rfl
          simp only [Array.getD_eq_getD_getElem?] at e0
          rw [if_pos (wanted_guard (j := 2) (d := 45) (b := false) rfl (by kernel_rfl) (hN 2 (needs_get (by kernel_rfl))))]
          go_simp
          exact hK _ _ Later.refl rfl
        · intro hne a u lu hN hO K hK
          (try simp only [Nat.zero_add, Nat.reduceAdd] at hN hK)
          have e0 : a.tmps.getD 46 undef = spP P.gh := hN 3 (needs_get (by kernel_rfl))
          simp only [Array.getD_eq_getD_getElem?] at e0
          rw [if_pos (wanted_guard (j := 2) (d := 45) (b := false) rfl (by kernel_rfl) (hN 2 (needs_get (by kernel_rfl))))]
          go_simp
          refine (HOf u (ld6.trans lu)).mono ?_
          rintro r u' ⟨o, OA, OC, ho, rfl, hno, hb⟩
          exact hK _ _ ⟨hb⟩ ⟨o, OA, OC, rfl, ho, hno⟩
        · intro hne a u lu hN hO K hK
          (try simp only [Nat.zero_add, Nat.reduceAdd] at hN hK)
          have e0 : a.tmps.getD 1 undef = .pointer (some ⟨w.heap.size, 0, none⟩) := (hO 1 (out_get (by kernel_rfl))).trans rfl
          simp only [Array.getD_eq_getD_getElem?] at e0
          have cG := HG0 u lu
          rw [if_pos (wanted_guard (j := 2) (d := 45) (b := false) rfl (by kernel_rfl) (hN 2 (needs_get (by kernel_rfl))))]
          go_simp
          exact hK _ _ Later.refl rfl
        · intro hne a u lu hN hO K hK
          (try simp only [Nat.zero_add, Nat.reduceAdd] at hN hK)
          obtain ⟨o, OA, OC, e0, ho, hno⟩ : ∃ (o : List NodeE) (OA : Option Addr) (OC : Nat), a.tmps.getD 47 undef = .agg #[.slice OA o.length OC] ∧ Hid (conL o = conL l) ∧ NodesAt u OA o := hN 4 (needs_get (by kernel_rfl))
          simp only [Array.getD_eq_getD_getElem?] at e0
          have e1 : a.tmps.getD 48 undef = .agg #[.slice A l.length c] := hN 5 (needs_get (by kernel_rfl))
          simp only [Array.getD_eq_getD_getElem?] at e1
          have lwu := HWu u lu
          rw [if_pos (wanted_guard (j := 2) (d := 45) (b := false) rfl (by kernel_rfl) (hN 2 (needs_get (by kernel_rfl))))]
          go_simp
          refine (HEq o OA OC u hno ho).mono ?_
          rintro r u' ⟨rfl, hb⟩
          exact hK _ _ ⟨hb⟩ rfl
        · intro hne a u lu hN hO K hK
          (try simp only [Nat.zero_add, Nat.reduceAdd] at hN hK)
          have e0 : a.tmps.getD 49 undef = .bool true := hN 6 (needs_get (by kernel_rfl))
          simp only [Array.getD_eq_getD_getElem?] at e0
          rw [if_pos (wanted_guard (j := 2) (d := 45) (b := false) rfl (by kernel_rfl) (hN 2 (needs_get (by kernel_rfl))))]
          go_simp
          exact hK _ _ Later.refl rfl
        · intro hne a u lu hN hO K hK
          (try simp only [Nat.zero_add, Nat.reduceAdd] at hN hK)
          have e0 : a.tmps.getD 45 undef = .bool false := hN 2 (needs_get (by kernel_rfl))
          simp only [Array.getD_eq_getD_getElem?] at e0
          have e1 : a.tmps.getD 50 undef = .bool false := hN 7 (needs_get (by kernel_rfl))
          simp only [Array.getD_eq_getD_getElem?] at e1
          rw [if_pos (by rfl)]
          go_simp
          exact hK _ _ Later.refl rfl
      · intro o ho; cases ho
      · intro _ a7 w7 hI7
        have e0 : a7.tmps.getD 51 undef = .bool false := hI7.got 8 (by decide) rfl
        have hd7 : a7.defers = [] := hI7.defers.trans rfl
        have l67 : Later w6 w7 := ld6.trans hI7.later
        have hTm := tmps_of (L := [43, 44, 45, 46, 47, 48, 49, 50, 51]) hI7.size (fun t ht => hI7.out t (fun hm => ht hm))
        clear hI7
        obtain ⟨atm, adf⟩ := a7
        dsimp only at hTm hd7 e0
        subst hd7
        simp only [List.foldl_cons, List.foldl_nil, List.setIfInBounds_toArray, List.set_cons_succ, List.set_cons_zero] at hTm
        rw [e0] at hTm
        clear e0
        generalize atm.getD 43 undef = v0 at hTm
        generalize atm.getD 44 undef = v1 at hTm
        generalize atm.getD 45 undef = v2 at hTm
        generalize atm.getD 46 undef = v3 at hTm
        generalize atm.getD 47 undef = v4 at hTm
        generalize atm.getD 48 undef = v5 at hTm
        generalize atm.getD 49 undef = v6 at hTm
        generalize atm.getD 50 undef = v7 at hTm
        subst hTm
        have lw7 : Later w w7 := lw6.trans l67
        have l17 : Later w1 w7 := l16.trans l67
        have l77 : Later w7 w7 := Later.refl
        go_wp2_with fail
        go_loopw [55] (fun kv wr => ∃ k : Nat, k ≤ l.length ∧ kv = .int .i64 k ∧ Below w7.heap.size w7 wr) (fun kv _ => l.length - (intOf kv).toNat)
        case atStart => exact ⟨0, Nat.zero_le _, rfl, Below.refl _ _⟩
        case round =>
          obtain ⟨k, hk, rfl, hbr⟩ := hrel
          have l7r : Later w7 wr := ⟨hbr⟩
          have l6r : Later w6 wr := l67.trans l7r
          have l1r : Later w1 wr := l17.trans l7r
          have lwr : Later w wr := lw7.trans l7r
          have lrr : Later wr wr := Later.refl
          by_cases hlt : k < l.length
          · obtain ⟨gx, ox, n, rfl, hn, NC, -, -⟩ := (HN w).get hlt
            have hki : (k : Int) < (l.length : Int) := by omega
            have HV := HVv k n hn
            obtain ⟨ga, oa, rfl, CA⟩ := W64.at2 hsl (k := k) (x := adW (offW (conL l) k)) (by unfold atL; rw [List.getElem?_map, List.getElem?_range hlt]; rfl)
            obtain ⟨aw, haw⟩ : ∃ y, y = adW (offW (conL l) k) := ⟨_, rfl⟩
            rw [← haw] at HV
            simp only [← haw] at CA
            clear haw
            go_upto_region 15 with fail
            refine wp_name ?_
            intro w8 hw8
            obtain ⟨B9, l8⟩ := box1 hw8
            have l88 : Later w8 w8 := Later.refl
            have l78 : Later w7 w8 := l8 w7
            have l68 : Later w6 w8 := l8 w6
            have lw8 : Later w w8 := l8 w
            clear hw8 l8
            (refine wp_region_after (by kernel_rfl) (by kernel_rfl) ?_
             repeat (any_goals (first | go_big_quiet_skip | (go_big_quiet_want; go_big_quiet_op; first | go_big_quiet_on | go_big_quiet_call ((go_at_call 15; exact Calls.after (HV _)))) | quiet_step ((go_at_call 15; exact Calls.after (HV _))) | (refine wpQuiet_step (fun K hK => ?_); go_simp; split <;> (refine hK _ ?_; clear hK K))))
             all_goals (refine wpQuiet_nil ?_; intro _ hw'; obtain ⟨u', hw''⟩ := hw'; subst hw''; obtain ⟨wd, hbd⟩ := u'; simp only [After.val_mk]))
            have ld := later hbd
            go_wp2_with fail
            go_roundw
            case rel => exact ⟨k + 1, by omega, by go_num, below_of⟩
            case measure => simp [intOf]; omega
          · have hk' : k = l.length := by omega
            subst hk'
            go_wp2_with (go_at_call 7; refine (HA _).mono ?_; rintro r w9 ⟨rfl, hb9⟩; have l9 := later hb9)
            go_ret
            exact ⟨rfl, below_of⟩
end Go.Proofs.YtjegncmkebbdfaaGreatDoor

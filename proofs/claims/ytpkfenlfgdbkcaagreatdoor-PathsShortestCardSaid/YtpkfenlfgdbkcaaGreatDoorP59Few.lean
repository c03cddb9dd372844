/-
  Contracts of the functions of this seat that each theorem names: what a call returns, and that it writes nothing that was there before. The conditions stand in each theorem.
-/
import Derived.Test.YtpkfenlfgdbkcaaGreatDoorP59Roots
set_option linter.unusedSimpArgs false
set_option linter.unusedVariables false
namespace Go.Proofs.YtpkfenlfgdbkcaaGreatDoor
open Go.RowKit
attribute [local go_sem] Oper.semAt_some Instr.makeFunc
attribute [local simp] heap_drew
attribute [local go_sem ↓] load_view_pre load_flight_pre load_msg_pre store_view_pre store_flight_pre store_msg_pre load_scion_pre store_scion_pre
attribute [local go_sem] load_view load_flight load_msg store_view store_flight store_msg load_scion store_scion view_isRow zero_isRow scion_isRow zeroS_isRow rowFree_new setRow_new view_arr0 view_arr2 view_arr3 view_arr4 view_arr5 view_arr6 view_arr9 view_arr10 flight_arr0 flight_arr1 flight_arr2 flight_arr3 flight_arr6 flight_arr7 flight_arr8 flight_arr9 flight_arr10 flight_arr11 flight_arr12 flight_arr13 flight_arr17 flight_arr18 flight_arr19 flight_arr20 flight_arr21 flight_arr22 flight_arr23 flight_arr24 flight_arr25 msg_arr0 msg_arr1 msg_arr4 msg_arr5 msg_arr6 msg_arr7 msg_arr8 msg_arr9 msg_arr10 msg_arr11 msg_arr15 msg_arr16 msg_arr17 msg_arr18 msg_arr19 msg_arr20 msg_arr21 msg_arr22 msg_arr23
def FewPost (V : List ViewE) (w : World) (r : Ending) (w' : World) : Prop := ∃ b, r = .returned (.bool b) ∧ (b = true → FewV V) ∧ Below w.heap.size w w'
set_option maxRecDepth 100000 in
set_option maxHeartbeats 8000000 in
theorem few55_any (A : Option Addr) (c : Nat) (V : List ViewE) (w : World) (H : ViewsAt w A V) (hl : V.length ≤ 1000000000000000) :
    Calls Tryz.prog 10 #[.slice A V.length c] w (FewPost V w) := by
  have HV := H.later
  have hl' : V.length ≤ 9223372036854775807 := by omega
  go_enter Tryz.func10, Tryz.ntmps10
  have lww : Later w w := Later.refl
  go_wp2_with fail
  go_loopw [3] (fun iv wr => ∃ k : Nat, k ≤ V.length ∧ iv = .int .i64 k ∧ Hid (∀ (j : Nat) (v : ViewE), j < k → V[j]? = some v → FewW v) ∧ Below w.heap.size w wr) (fun iv _ => V.length - (intOf iv).toNat)
  case atStart => exact ⟨0, by omega, rfl, hide fun j v h => absurd h (by omega), Below.refl _ _⟩
  case round =>
    obtain ⟨k, hk, rfl, hall, hbr⟩ := hrel
    have lr := later hbr
    have lrr : Later wr wr := Later.refl
    by_cases hlt : k < V.length
    · obtain ⟨b, o, v, rfl, hv, hmem, LV, -, -, -, hvo⟩ := (HV wr).get hlt
      have hki : (k : Int) < (V.length : Int) := by omega
      have Hv := hide hv
      clear hv
      obtain ⟨fA, hfA0⟩ : ∃ y, v.fA = y := ⟨_, rfl⟩
      by_cases h1 : (12 : Int) < (v.objects.length : Int)
      · go_wp2_with fail
        go_ret
        exact ⟨false, rfl, fun h => (by cases h), below_of⟩
      by_cases h2 : (12 : Int) < (v.tn : Int)
      · go_wp2_with fail
        go_ret
        exact ⟨false, rfl, fun h => (by cases h), below_of⟩
      by_cases h3 : (12 : Int) < (v.scions.length : Int)
      · go_wp2_with fail
        go_ret
        exact ⟨false, rfl, fun h => (by cases h), below_of⟩
      by_cases h4 : (6 : Int) < (v.names.length : Int)
      · go_wp2_with fail
        go_ret
        exact ⟨false, rfl, fun h => (by cases h), below_of⟩
      by_cases h5 : (6 : Int) < (v.mail.length : Int)
      · go_wp2_with fail
        go_ret
        exact ⟨false, rfl, fun h => (by cases h), below_of⟩
      by_cases h6 : (6 : Int) < (v.flights.length : Int)
      · go_wp2_with fail
        go_ret
        exact ⟨false, rfl, fun h => (by cases h), below_of⟩
      by_cases h7 : (10 : Int) < (v.received.length : Int)
      · go_wp2_with fail
        go_ret
        exact ⟨false, rfl, fun h => (by cases h), below_of⟩
      go_upto_region 7 with fail
      refine wp_name ?_
      intro w3 hw3
      have bV : w3.heap[wr.heap.size]? = some (.cells v.arr 64 (0, 0)) := (by rw [← hw3]; simp only [heap_alloc_if, World.size_alloc]; repeat (first | rw [if_pos trivial] | rw [if_neg (by omega)] | rw [if_pos (by omega)]); try rfl)
      have hb3 : Below wr.heap.size wr w3 := by rw [← hw3]; exact (by repeat (first | with_reducible exact Below.refl _ _ | (with_reducible refine Below.drew ?_) | (with_reducible refine below_drewN ?_ _) | (with_reducible refine Below.alloc ?_ ?_ _; rotate_left; (first | omega | (simp <;> omega))) | (with_reducible refine Below.setCell ?_ ?_ _; rotate_left; (first | omega | (simp <;> omega)))))
      clear hw3
      have BV := boxed bV
      have l33 : Later w3 w3 := Later.refl
      have lr3 : Later wr w3 := ⟨hb3⟩
      have hvo3 := hvo w3
      have lw3 : Later w w3 := ⟨hbr.trans (hb3.mono hbr.size)⟩
      go_wp2_with fail
      go_loopw [5] (fun iv wq => ∃ j : Nat, j ≤ v.objects.length ∧ iv = .int .i64 j ∧ Hid (∀ (i : Nat) (n : NodeE), i < j → v.objects[i]? = some n → n.fields.length ≤ 6) ∧ Below w3.heap.size w3 wq) (fun iv _ => v.objects.length - (intOf iv).toNat)
      case atStart => exact ⟨0, by omega, rfl, hide fun j v h => absurd h (by omega), Below.refl _ _⟩
      case round =>
        obtain ⟨j, hj, rfl, hd, hbq⟩ := hrel
        have l3q : Later w3 wr := ⟨hbq⟩
        have lwq : Later w wr := lw3.trans l3q
        have lqq : Later wr wr := Later.refl
        by_cases hlt2 : j < v.objects.length
        · obtain ⟨gb, go, n, hoA, hn, NC, -, -⟩ := (hvo3.o.later wr).get hlt2
          have hji : (j : Int) < (v.objects.length : Int) := by omega
          have Hn := hide hn
          clear hn
          by_cases h8 : (6 : Int) < (n.fields.length : Int)
          · go_wp2_with fail
            go_ret
            exact ⟨false, rfl, fun h => (by cases h), below_of⟩
          · go_wp2_with fail
            go_roundw
            case rel => exact ⟨j + 1, by omega, by go_num, hide fun i n' hi hn' => by
              rcases Nat.lt_or_ge i j with h | h
              · exact hd.out i n' h hn'
              · have : i = j := by omega
                subst this
                rw [Hn.out] at hn'; injection hn' with hn'; subst hn'
                omega, below_of⟩
            case measure => simp [intOf]; omega
        · have hj' : j = v.objects.length := by omega
          subst hj'
          have hdA := hide (show ∀ n ∈ v.objects, n.fields.length ≤ 6 from fun n hn => by
            obtain ⟨i, hi⟩ := List.getElem?_of_mem hn
            exact hd.out i n (List.getElem?_eq_some_iff.1 hi).1 hi)
          obtain ⟨w4, hw4⟩ : ∃ y, y = wr := ⟨_, rfl⟩
          subst hw4
          clear hd
          have hvo4 := hvo3.below l3q.below
          go_wp2_with fail
          go_loopw [6] (fun iv wq => ∃ j : Nat, j ≤ v.mail.length ∧ iv = .int .i64 j ∧ Hid (∀ (i : Nat) (n : MailE), i < j → v.mail[i]? = some n → n.args.length ≤ 6) ∧ Below w4.heap.size w4 wq) (fun iv _ => v.mail.length - (intOf iv).toNat)
          case atStart => exact ⟨0, by omega, rfl, hide fun j v h => absurd h (by omega), Below.refl _ _⟩
          case round =>
            obtain ⟨j, hj, rfl, hd, hbq⟩ := hrel
            have l4q : Later w4 wr := ⟨hbq⟩
            have l3q : Later w3 wr := l3q.trans l4q
            have lwq : Later w wr := lw3.trans l3q
            have lqq : Later wr wr := Later.refl
            by_cases hlt3 : j < v.mail.length
            · obtain ⟨gb, go, n, hmA, hn, hnm, NC⟩ := mails_get (hvo4.m.below hbq) hlt3
              have hji : (j : Int) < (v.mail.length : Int) := by omega
              have Hn := hide hn
              clear hn
              by_cases h8 : (6 : Int) < (n.args.length : Int)
              · go_wp2_with fail
                go_ret
                exact ⟨false, rfl, fun h => (by cases h), below_of⟩
              · go_wp2_with fail
                go_roundw
                case rel => exact ⟨j + 1, by omega, by go_num, hide fun i n' hi hn' => by
                  rcases Nat.lt_or_ge i j with h | h
                  · exact hd.out i n' h hn'
                  · have : i = j := by omega
                    subst this
                    rw [Hn.out] at hn'; injection hn' with hn'; subst hn'
                    omega, below_of⟩
                case measure => simp [intOf]; omega
            · have hj' : j = v.mail.length := by omega
              subst hj'
              have hmA := hide (show ∀ n ∈ v.mail, n.args.length ≤ 6 from fun n hn => by
                obtain ⟨i, hi⟩ := List.getElem?_of_mem hn
                exact hd.out i n (List.getElem?_eq_some_iff.1 hi).1 hi)
              obtain ⟨w5, hw5⟩ : ∃ y, y = wr := ⟨_, rfl⟩
              subst hw5
              clear hd
              have hvo5 := hvo4.below hbq
              go_wp2_with fail
              go_loopw [7] (fun iv wq => ∃ j : Nat, j ≤ v.flights.length ∧ iv = .int .i64 j ∧ Hid (∀ (i : Nat) (n : FlightE), i < j → v.flights[i]? = some n → FewF n) ∧ Below w5.heap.size w5 wq) (fun iv _ => v.flights.length - (intOf iv).toNat)
              case atStart => exact ⟨0, by omega, rfl, hide fun j v h => absurd h (by omega), Below.refl _ _⟩
              case round =>
                obtain ⟨j, hj, rfl, hd, hbq5⟩ := hrel
                have l5q : Later w5 wr := ⟨hbq5⟩
                have l3q : Later w3 wr := l3q.trans l5q
                have lwq : Later w wr := lw3.trans l3q
                have lqq : Later wr wr := Later.refl
                have hvoq := hvo5.below hbq5
                by_cases hlt4 : j < v.flights.length
                · obtain ⟨fb, fo, x, hfA, hx, hxm, hxo, hxr, RX, RM, -, -⟩ := flights_get hvoq.f hvoq.g hlt4
                  rw [hfA0] at hfA
                  subst hfA
                  have hji : (j : Int) < (v.flights.length : Int) := by omega
                  have Hx := hide hx
                  clear hx
                  have hMr := msg_isRow (hxo wr)
                  have hxow := hxo wr
                  by_cases p1 : (6 : Int) < (x.msg.letter.args.length : Int)
                  · go_wp2_with fail
                    go_ret
                    exact ⟨false, rfl, fun h => (by cases h), below_of⟩
                  by_cases p2 : (6 : Int) < (x.msg.parcel.fields.length : Int)
                  · go_wp2_with fail
                    go_ret
                    exact ⟨false, rfl, fun h => (by cases h), below_of⟩
                  by_cases p3 : (4 : Int) < (x.msg.parcel.mail.length : Int)
                  · go_wp2_with fail
                    go_ret
                    exact ⟨false, rfl, fun h => (by cases h), below_of⟩
                  go_upto_region 23 with fail
                  refine wp_name ?_
                  intro w6 hw6
                  have bM : w6.heap[wr.heap.size]? = some (.cells x.msg.arr 85 (0, 0)) := (by rw [← hw6]; simp only [heap_alloc_if, World.size_alloc]; repeat (first | rw [if_pos trivial] | rw [if_neg (by omega)] | rw [if_pos (by omega)]); try rfl)
                  have hb6 : Below wr.heap.size wr w6 := by rw [← hw6]; exact (by repeat (first | with_reducible exact Below.refl _ _ | (with_reducible refine Below.drew ?_) | (with_reducible refine below_drewN ?_ _) | (with_reducible refine Below.alloc ?_ ?_ _; rotate_left; (first | omega | (simp <;> omega))) | (with_reducible refine Below.setCell ?_ ?_ _; rotate_left; (first | omega | (simp <;> omega)))))
                  clear hw6
                  have BM := boxed bM
                  have l66 : Later w6 w6 := Later.refl
                  have lr6 : Later wr w6 := ⟨hb6⟩
                  have lw6 : Later w w6 := lwq.trans lr6
                  have l36 : Later w3 w6 := l3q.trans lr6
                  have hxo6 := hxo w6
                  go_wp2_with fail
                  go_loopw [9] (fun iv wq => ∃ t : Nat, t ≤ x.msg.parcel.mail.length ∧ iv = .int .i64 t ∧ Hid (∀ (i : Nat) (n : LetterE), i < t → x.msg.parcel.mail[i]? = some n → n.args.length ≤ 6) ∧ Below w6.heap.size w6 wq) (fun iv _ => x.msg.parcel.mail.length - (intOf iv).toNat)
                  case atStart => exact ⟨0, by omega, rfl, hide fun j v h => absurd h (by omega), Below.refl _ _⟩
                  case round =>
                    obtain ⟨t, ht, rfl, hdt, hbt⟩ := hrel
                    have l6q : Later w6 wr := ⟨hbt⟩
                    have l3t : Later w3 wr := l36.trans l6q
                    have lwt : Later w wr := lw6.trans l6q
                    have lqq : Later wr wr := Later.refl
                    by_cases hlt5 : t < x.msg.parcel.mail.length
                    · obtain ⟨gb, go, n, hmA, hn, hnm, NC⟩ := letters_get (hxo6.p.m.below hbt) hlt5
                      have hti : (t : Int) < (x.msg.parcel.mail.length : Int) := by omega
                      have Hn := hide hn
                      clear hn
                      by_cases h8 : (6 : Int) < (n.args.length : Int)
                      · go_wp2_with fail
                        go_ret
                        exact ⟨false, rfl, fun h => (by cases h), below_of⟩
                      · go_wp2_with fail
                        go_roundw
                        case rel => exact ⟨t + 1, by omega, by go_num, hide fun i n' hi hn' => by
                          rcases Nat.lt_or_ge i t with h | h
                          · exact hdt.out i n' h hn'
                          · have : i = t := by omega
                            subst this
                            rw [Hn.out] at hn'; injection hn' with hn'; subst hn'
                            omega, below_of⟩
                        case measure => simp [intOf]; omega
                    · have ht' : t = x.msg.parcel.mail.length := by omega
                      subst ht'
                      have hFx := hide (show FewF x from ⟨by omega, by omega, by omega, fun n hn => by
                        obtain ⟨i, hi⟩ := List.getElem?_of_mem hn
                        exact hdt.out i n (List.getElem?_eq_some_iff.1 hi).1 hi⟩)
                      go_wp2_with fail
                      go_roundw
                      case rel => exact ⟨j + 1, by omega, by go_num, hide fun i x' hi hx' => by
                        rcases Nat.lt_or_ge i j with h | h
                        · exact hd.out i x' h hx'
                        · have : i = j := by omega
                          subst this
                          rw [Hx.out] at hx'; injection hx' with hx'; subst hx'
                          exact hFx.out, l5q.below.trans ((hb6.mono l5q.below.size).trans (hbt.mono (Nat.le_trans l5q.below.size hb6.size)))⟩
                      case measure => simp [intOf]; omega
                · have hj' : j = v.flights.length := by omega
                  subst hj'
                  have hfA := hide (show ∀ n ∈ v.flights, FewF n from fun n hn => by
                    obtain ⟨i, hi⟩ := List.getElem?_of_mem hn
                    exact hd.out i n (List.getElem?_eq_some_iff.1 hi).1 hi)
                  have hFW := hide (show FewW v from ⟨by omega, hdA.out, by omega, by omega, by omega, hmA.out, by omega, hfA.out, by omega⟩)
                  go_wp2_with fail
                  go_roundw
                  case rel => exact ⟨k + 1, by omega, by go_num, hide fun i v' hi hv' => by
                    rcases Nat.lt_or_ge i k with h | h
                    · exact hall.out i v' h hv'
                    · have : i = k := by omega
                      subst this
                      rw [Hv.out] at hv'; injection hv' with hv'; subst hv'
                      exact hFW.out, below_of⟩
                  case measure => simp [intOf]; omega
    · have hk' : k = V.length := by omega
      subst hk'
      have hF := hide (show V.length ≤ 5 → FewV V from fun h => ⟨h, fun v hv => by
        obtain ⟨j, hj⟩ := List.getElem?_of_mem hv
        exact hall.out j v (List.getElem?_eq_some_iff.1 hj).1 hj⟩)
      by_cases h5 : V.length ≤ 5
      · have h5i : (V.length : Int) ≤ 5 := by omega
        go_wp2_with fail
        go_ret
        exact ⟨true, ret_bool (by simp), fun _ => hF.out h5, below_of⟩
      · have h5i : ¬ (V.length : Int) ≤ 5 := by omega
        go_wp2_with fail
        go_ret
        exact ⟨false, ret_bool (by simp), fun h => (by cases h), below_of⟩
end Go.Proofs.YtpkfenlfgdbkcaaGreatDoor

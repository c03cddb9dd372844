/-
  Contracts of the functions of this seat that each theorem names: what a call returns, and that it writes nothing that was there before. The conditions stand in each theorem.
-/
import Derived.Test.YthigjlllhnajbaaC25LawApplies
import Derived.Test.YthigjlllhnajbaaC25RefBuild
import Derived.Test.YthigjlllhnajbaaC25Plain4
namespace Go.Proofs.Ythigjlllhnajbaa
open Go.RowKit
/-- What Build leaves (closed to the walk's simp). -/
def BuildPost (es : List StubE) (owner R S C : Int) (w : World) (r : Ending) (w' : World) : Prop := ∃ (l : List ListedE) (A : Option Addr) (c : Nat), Hid (l = refBuildL owner es) ∧ r = .returned (.agg #[.int .i64 R, .int .i64 S, .int .i64 C, .slice A l.length c]) ∧
  Own ListedE.cells 3 64 w.heap.size w' (.slice A l.length c) l ∧ Below w.heap.size w w'
theorem build_q (sA : Option Addr) (sC : Nat) (es : List StubE) (owner R S C : Int) (w : World) (hs : SlAt StubE.cells 12 w sA es) (hsl : es.length ≤ 100000000) :
    Calls Try.prog 12 #[.slice sA es.length sC, .int .i64 owner, .int .i64 R, .int .i64 S, .int .i64 C] w (BuildPost es owner R S C w) :=
  (build_any sA sC es owner R S C w hs hsl).mono fun r w' ⟨A, c, l, h1, h2, h3, h4, h5⟩ => ⟨l, A, c, (build_eq h2 (h3.imp fun h => by rw [cmpL_lt] at h; simpa using h)).1, h1, h4, h5⟩
theorem refBuild_q (sA : Option Addr) (sC : Nat) (es : List StubE) (owner R S C : Int) (w : World) (hs : SlAt StubE.cells 12 w sA es) (hsl : es.length ≤ 100000000) :
    Calls Try.prog 14 #[.slice sA es.length sC, .int .i64 owner, .int .i64 R, .int .i64 S, .int .i64 C] w (BuildPost es owner R S C w) :=
  (refBuild_any sA sC es owner R S C w hs hsl).mono fun r w' ⟨A, c, h1, h2, h3⟩ => ⟨_, A, c, rfl, h1, h2, h3⟩
theorem sameList_true (R S C : Int) (aA : Option Addr) (c : Nat) (a : List ListedE) (bA : Option Addr) (c' : Nat) (b : List ListedE) (w : World) (ha : SlAt ListedE.cells 3 w aA a) (hb : SlAt ListedE.cells 3 w bA b) (hal : a.length ≤ 9223372036854775807) (hbl : b.length ≤ 9223372036854775807) (e : Hid (a = b)) :
    Calls Try.prog 13 #[.agg #[.int .i64 R, .int .i64 S, .int .i64 C, .slice aA a.length c], .agg #[.int .i64 R, .int .i64 S, .int .i64 C, .slice bA b.length c']] w
      fun r w' => r = .returned (.bool true) ∧ Below w.heap.size w w' :=
  (sameList_any' R S C aA c a R S C bA c' b w ha hb hal hbl).mono fun r w' ⟨q, h1, h2, h3⟩ => ⟨by rw [h1, h2.2 ⟨rfl, rfl, rfl, e.out⟩], h3⟩
theorem refBuild_len' {o : Int} {es : List StubE} : (refBuildL o es).length ≤ es.length := by
  have := refBuild_len (o := o) es []
  simpa [refBuildL] using this
theorem refBuild_okB {o : Int} {es : List StubE} (h : ∀ e ∈ es, 0 ≤ e.distance) : okB (refBuildL o es) = true := by
  obtain ⟨h1, h2, _⟩ := build_same o es
  refine okB_of_strict h2 fun x hx => ?_
  exact ded_mem (P := fun x => 0 ≤ x.distance) es [] (fun e he => h e he) (fun x hx => by cases hx) x ((h1 x).2 hx)
set_option maxRecDepth 100000 in
set_option maxHeartbeats 4000000 in
theorem lawBuilds_any' (sA : Option Addr) (sC : Nat) (es : List StubE) (owner R S C : Int) (w : World) (hs : SlAt StubE.cells 12 w sA es) (hl : es.length ≤ 9223372036854775807) :
    Calls Try.prog 3 #[.slice sA es.length sC, .int .i64 owner, .int .i64 R, .int .i64 S, .int .i64 C] w fun r w' => r = .returned (.bool true) ∧ Below w.heap.size w w' := by
  have Hs : ∀ u [Later w u], SlAt StubE.cells 12 u sA es := fun u i => hs.below i.below
  go_enter Try.func3, Try.ntmps3
  go_wp2_with (go_at_call 11; refine (awake_any _).mono ?_)
  rintro r w1 ⟨rfl, hb1⟩
  have l1 := later hb1
  by_cases hn : 30 < es.length
  · have hn' : (30 : Int) < (es.length : Int) := by omega
    go_wp2_with (go_at_call 11; refine (awake_any _).mono ?_)
    rintro r w2 ⟨rfl, hb2⟩
    have l2 := later hb2
    go_wp2_with fail
    go_ret
    exact ⟨rfl, below_of⟩
  have hn' : decide ((30 : Int) < (es.length : Int)) = false := by simp; omega
  go_wp2_with (go_at_call 12; refine (build_q sA sC es owner R S C _ (Hs _) (by omega)).mono ?_)
  intro r w2 h2
  obtain ⟨l, A, c, hL, rfl, ho2, hb2⟩ := h2
  have l2 := later hb2
  have HA := hide (ho2.at_ ListedE.enc).2.2.later
  have hl30 : l.length ≤ 30 := by rw [hL.out]; exact Nat.le_trans refBuild_len' (by omega)
  clear ho2
  go_upto_region 4 with fail
  refine wp_name ?_
  intro w3 hw3
  have l3 := later_name' hw3 (inferInstance : Later w2 _)
  have B3 : Boxed w3 w2.heap.size #[.int .i64 R, .int .i64 S, .int .i64 C, .slice A l.length c] 26 := boxed (by rw [← hw3]; simp only [heap_alloc_if, World.size_alloc]; repeat (first | rw [if_pos trivial] | rw [if_neg (by omega)] | rw [if_pos (by omega)]); try rfl)
  clear hw3
  go_region_held3 (fun w' => ∀ b [Later b w3], Later b w') ((intro b _; infer_instance))
    ((first
      | (go_at_call 13; refine (sameList_true R S C A c l A4 c4 l4 _ (HA.out _) (HB.out _) (by omega) (by omega) E4).mono ?_; rintro r w5 ⟨rfl, hb5⟩; have l5 := later hb5)
      | (go_at_call 14; refine (refBuild_q sA sC es owner R S C _ (Hs _) (by omega)).mono ?_; intro r w4 h4; obtain ⟨l4, A4, c4, hL4, rfl, ho4, hb4⟩ := h4; have l4' := later hb4; have HB := hide (ho4.at_ ListedE.enc).2.2.later; have E4 := hide (show l = l4 by rw [hL.out, hL4.out]); have hl4 : l4.length ≤ 30 := by (rw [← E4.out]; exact hl30))))
  go_wp2_with fail
  go_loopw [13, 39] (fun _ i wr => ∃ k : Nat, k ≤ es.length ∧ i = .int .i64 k ∧ (∀ (j : Nat) (x : StubE), j < k → es[j]? = some x → 0 ≤ x.distance) ∧ Below w5.heap.size w5 wr) (fun _ i _ => es.length - (intOf i).toNat)
  case atStart => exact ⟨0, by omega, rfl, fun j x h => absurd h (by omega), Below.refl _ _⟩
  case round =>
    obtain ⟨k, hk, rfl, hall, hbr⟩ := hrel
    have lr := later hbr
    have Hall := hide hall
    clear hall
    by_cases hlt : k < es.length
    · obtain ⟨g, o, x, rfl, hx, C1⟩ := StubE.get (Hs wr) hlt
      have Hx := hide hx
      clear hx
      by_cases hd : x.distance < 0
      · go_wp2_with fail
        go_ret
        exact ⟨rfl, below_of⟩
      · go_wp2_with fail
        go_roundw
        case rel => exact ⟨k + 1, by omega, by go_num, fun j y hj hy => by
          rcases Nat.lt_or_ge j k with h | h
          · exact Hall.out j y h hy
          · have : j = k := by omega
            subst this
            have hx := Hx.out
            rw [hx] at hy; injection hy with hy; subst hy; omega, below_of⟩
        case measure => simp [intOf]; omega
    · have hk' : k = es.length := by omega
      subst hk'
      have Hok := hide (show okB l = true by
        rw [hL.out]
        refine refBuild_okB fun e he => ?_
        obtain ⟨j, hj⟩ := List.getElem?_of_mem he
        exact Hall.out j e (List.getElem?_eq_some_iff.1 hj).1 hj)
      have HV : ∀ u [Later w2 u], Calls Try.prog 15 #[.agg #[.int .i64 R, .int .i64 S, .int .i64 C, .slice A l.length c]] u fun r w' => r = .returned (.bool (decide (1 ≤ R) && (decide (0 ≤ S) && decide (0 ≤ C)))) ∧ Below u.heap.size u w' := fun u i => by
        refine (valid_any ⟨R, S, C, A, c, l⟩ u ⟨HA.out u, by simp only; omega⟩).mono fun r w' h => ⟨?_, h.2⟩
        rw [h.1]
        have h1 : decide (l.length ≤ 1024) = true := by simp; omega
        simp only [validB, headB, Hok.out, h1, Bool.and_true]
      go_wp2_with (go_at_call 15; refine (HV _).mono ?_)
      rintro r w6 ⟨rfl, hb6⟩
      have l6 := later hb6
      by_cases h1 : 1 ≤ R
      · by_cases h2 : 0 ≤ S
        · go_wp2_with fail
          go_ret
          exact ⟨ret_bool (by simp [h1, h2]), below_of⟩
        · go_wp2_with fail
          go_ret
          exact ⟨ret_bool (by simp [h1, h2]), below_of⟩
      · go_wp2_with fail
        go_ret
        exact ⟨ret_bool (by simp [h1]), below_of⟩
theorem lawBuilds_any (A : Option Addr) (c : Nat) (es : List StubE) (o R S C : Int) (w : World) (hx : SlIn StubE.cells 12 80 (fun _ e => e.wf) w A c es) :
    Calls Try.prog 3 #[.slice A es.length c, .int .i64 o, .int .i64 R, .int .i64 S, .int .i64 C] w fun r w' => r = .returned (.bool true) ∧ Below w.heap.size w w' :=
  lawBuilds_any' A c es o R S C w hx.at_ (by have := hx.len; omega)
end Go.Proofs.Ythigjlllhnajbaa

/-
  Contracts of the functions of this seat that each theorem names: what a call returns, and that it writes nothing that was there before. The conditions stand in each theorem.
-/
import Derived.Test.YthigjlllhnajbaaC25Awake
import Derived.Test.YthigjlllhnajbaaC25RefApply
import Derived.Test.YthigjlllhnajbaaC25Open
namespace Go.Proofs.Ythigjlllhnajbaa
open Go.RowKit
/-- What Apply leaves, its two lists named (closed to the walk's simp). -/
def ApplyPost (L : ListV) (xs : List ScionE) (w : World) (r : Ending) (w' : World) : Prop := ∃ (K M : List ScionE) (A1 : Option Addr) (c1 : Nat) (A2 : Option Addr) (c2 : Nat), Hid (K = keptL L.entries L.received L.sent xs) ∧ Hid (M = remL L.entries L.received L.sent xs) ∧ r = .returned (.tuple #[.slice A1 K.length c1, .slice A2 M.length c2]) ∧
      Own ScionE.cells 12 43 w.heap.size w' (.slice A1 K.length c1) K ∧ Own ScionE.cells 12 43 w.heap.size w' (.slice A2 M.length c2) M ∧ Below w.heap.size w w'
theorem apply_q (sA : Option Addr) (sC : Nat) (xs : List ScionE) (L : ListV) (w : World) (hs : SlAt ScionE.cells 12 w sA xs) (hL : L.at_ w) (hsl : xs.length ≤ 100000000) :
    Calls Try.prog 16 #[.slice sA xs.length sC, L.v] w (ApplyPost L xs w) :=
  (apply_any sA sC xs L w hs hL hsl).mono fun r w' ⟨v1, v2, h1, h2, h3, h4⟩ => by
    obtain ⟨A1, c1, rfl, _, _, _⟩ := h2.slAt ScionE.enc
    obtain ⟨A2, c2, rfl, _, _, _⟩ := h3.slAt ScionE.enc
    exact ⟨_, _, A1, c1, A2, c2, rfl, rfl, h1, h2, h3, h4⟩
theorem refApply_q (sA : Option Addr) (sC : Nat) (xs : List ScionE) (L : ListV) (w : World) (hs : SlAt ScionE.cells 12 w sA xs) (hL : L.at_ w) (hsl : xs.length ≤ 100000000) :
    Calls Try.prog 17 #[.slice sA xs.length sC, L.v] w (ApplyPost L xs w) :=
  (refApply_any sA sC xs L w hs hL hsl).mono fun r w' ⟨v1, v2, h1, h2, h3, h4⟩ => by
    obtain ⟨A1, c1, rfl, _, _, _⟩ := h2.slAt ScionE.enc
    obtain ⟨A2, c2, rfl, _, _, _⟩ := h3.slAt ScionE.enc
    exact ⟨_, _, A1, c1, A2, c2, rfl, rfl, h1, h2, h3, h4⟩
theorem sameScions_true (aA : Option Addr) (aC : Nat) (a : List ScionE) (bA : Option Addr) (bC : Nat) (b : List ScionE) (w : World) (ha : SlAt ScionE.cells 12 w aA a) (hb : SlAt ScionE.cells 12 w bA b) (hal : a.length ≤ 9223372036854775807) (hbl : b.length ≤ 9223372036854775807) (e : Hid (a = b)) :
    Calls Try.prog 18 #[.slice aA a.length aC, .slice bA b.length bC] w fun r w' => r = .returned (.bool true) ∧ Below w.heap.size w w' :=
  (sameScions_any aA aC a bA bC b w ha hb hal hbl).mono fun r w' ⟨q, h1, h2, h3⟩ => ⟨by rw [h1, h2.2 e.out], h3⟩
theorem kept_le {l : List ListedE} {r s : Int} {xs : List ScionE} : (keptL l r s xs).length ≤ xs.length := List.length_filterMap_le _ _
theorem rem_le {l : List ListedE} {r s : Int} {xs : List ScionE} : (remL l r s xs).length ≤ xs.length := List.length_filter_le _ _
set_option maxRecDepth 100000 in
set_option maxHeartbeats 2000000 in
theorem lawApplies_any' (sA : Option Addr) (sC : Nat) (xs : List ScionE) (R S C : Int) (A : Option Addr) (c : Nat) (es : List ListedE) (w : World) (hx : SlAt ScionE.cells 12 w sA xs) (hs : SlAt ListedE.cells 3 w A es) (hl : es.length ≤ 1000000000000000) (hxl : xs.length ≤ 9223372036854775807) :
    Calls Try.prog 4 #[.slice sA xs.length sC, .agg #[.int .i64 R, .int .i64 S, .int .i64 C, .slice A es.length c]] w fun r w' => r = .returned (.bool true) ∧ Below w.heap.size w w' := by
  have HL : ∀ u [Later w u], ListV.at_ ⟨R, S, C, A, c, es⟩ u := fun u i => ⟨hs.below i.below, hl⟩
  have HX : ∀ u [Later w u], SlAt ScionE.cells 12 u sA xs := fun u i => hx.below i.below
  go_enter Try.func4, Try.ntmps4
  go_upto_region 1 with fail
  refine wp_name ?_
  intro w0 hw0
  obtain ⟨B0, l0⟩ := box1 hw0
  clear hw0
  go_wp2_with (go_at_call 11; refine (awake_any _).mono ?_)
  rintro r w1 ⟨rfl, hb1⟩
  have l1 := later hb1
  by_cases hn : 30 < xs.length
  · have hn' : (30 : Int) < (xs.length : Int) := by omega
    go_wp2_with (go_at_call 11; refine (awake_any _).mono ?_)
    rintro r w2 ⟨rfl, hb2⟩
    have l2 := later hb2
    go_wp2_with fail
    go_ret
    exact ⟨rfl, below_of⟩
  have hn' : decide ((30 : Int) < (xs.length : Int)) = false := by simp; omega
  by_cases hm : 30 < es.length
  · have hm' : (30 : Int) < (es.length : Int) := by omega
    go_wp2_with (go_at_call 11; refine (awake_any _).mono ?_)
    rintro r w2 ⟨rfl, hb2⟩
    have l2 := later hb2
    go_wp2_with fail
    go_ret
    exact ⟨rfl, below_of⟩
  have hm' : decide ((30 : Int) < (es.length : Int)) = false := by simp; omega
  go_wp2_with (go_at_call 16; refine (apply_q sA sC xs ⟨R, S, C, A, c, es⟩ _ (HX _) (HL _) (by omega)).mono ?_)
  intro r w2 h2
  obtain ⟨K, M, A1, c1, A2, c2, hK, hM, rfl, ho1, ho2, hb2⟩ := h2
  have l2 := later hb2
  go_wp2_with (go_at_call 17; refine (refApply_q sA sC xs ⟨R, S, C, A, c, es⟩ _ (HX _) (HL _) (by omega)).mono ?_)
  intro r w3 h3
  obtain ⟨K', M', A3, c3, A4, c4, hK', hM', rfl, ho3, ho4, hb3⟩ := h3
  have l3 := later hb3
  have S1 := hide (ho1.at_ ScionE.enc).2.2.later
  have S2 := hide (ho2.at_ ScionE.enc).2.2.later
  have S3 := hide (ho3.at_ ScionE.enc).2.2.later
  have S4 := hide (ho4.at_ ScionE.enc).2.2.later
  clear ho1 ho2 ho3 ho4
  have E1 := hide (show K = K' by rw [hK.out, hK'.out])
  have E2 := hide (show M = M' by rw [hM.out, hM'.out])
  have Z1 : K.length ≤ 30 := by rw [hK.out]; exact Nat.le_trans kept_le (by omega)
  have Z2 : M.length ≤ 30 := by rw [hM.out]; exact Nat.le_trans rem_le (by omega)
  have Z3 : K'.length ≤ 30 := by rw [hK'.out]; exact Nat.le_trans kept_le (by omega)
  have Z4 : M'.length ≤ 30 := by rw [hM'.out]; exact Nat.le_trans rem_le (by omega)
  go_wp2_with (go_at_call 18; refine (sameScions_true A1 c1 K A3 c3 K' _ (S1.out _) (S3.out _) (by omega) (by omega) E1).mono ?_)
  rintro r w4 ⟨rfl, hb4⟩
  have l4 := later hb4
  go_wp2_with (go_at_call 18; refine (sameScions_true A2 c2 M A4 c4 M' _ (S2.out _) (S4.out _) (by omega) (by omega) E2).mono ?_)
  rintro r w5 ⟨rfl, hb5⟩
  have l5 := later hb5
  go_wp2_with fail
  go_ret
  exact ⟨rfl, below_of⟩
theorem lawApplies_any (A : Option Addr) (c : Nat) (xs : List ScionE) (L : ListV) (w : World) (hx : SlIn ScionE.cells 12 80 (fun _ e => e.wf) w A c xs) (hL : L.in_ w) :
    Calls Try.prog 4 #[.slice A xs.length c, L.v] w fun r w' => r = .returned (.bool true) ∧ Below w.heap.size w w' :=
  lawApplies_any' A c xs L.round L.sent L.received L.A L.c L.entries w hx.at_ hL.at_.s hL.at_.sl (by have := hx.len; omega)
end Go.Proofs.Ythigjlllhnajbaa

/-
  Contracts of the functions of this seat that each theorem names: what a call returns, and that it writes nothing that was there before. The conditions stand in each theorem.
-/
import Derived.Test.YtgddapgdeaeggaaC23Ref4
namespace Go.Proofs.Ytgddapgdeaeggaa
open Go.RowKit
def ModPost (w : World) (s : List StubE) (ev : Int) (r : Ending) (w' : World) : Prop := ∃ q A c, Hid (q = s) ∧ r = .returned (.tuple #[.slice A q.length c, .int .i64 ev]) ∧ q.length ≤ c ∧ c ≤ maxLen ∧ SlAt StubE.cells 12 w' A q ∧ Below w.heap.size w w'
set_option maxRecDepth 100000 in
set_option maxHeartbeats 4000000 in
theorem refAdd_any (A : Option Addr) (C : Nat) (xs : List StubE) (e : StubE) (w : World) (hs : SlAt StubE.cells 12 w A xs) (hl : xs.length ≤ 1000000) (hc : xs.length ≤ C) (hm : C ≤ maxLen) : Calls Try.prog 35 #[.slice A xs.length C, e.v] w (ModPost w (addR xs e) (addErrR xs e)) := by
  have HS : ∀ u [Later w u], SlAt StubE.cells 12 u A xs := fun u i => hs.below i.below
  obtain ⟨vb, hvb⟩ : ∃ b, b = validE e := ⟨_, rfl⟩
  obtain ⟨ia, hia⟩ : ∃ b, b = atR xs (keyE e) := ⟨_, rfl⟩
  obtain ⟨ib, hib⟩ : ∃ b, b = idR xs (idE e) := ⟨_, rfl⟩
  have HV : ∀ u, Calls Try.prog 17 #[e.v] u fun r w' => r = .returned (.bool vb) ∧ Below u.heap.size u w' := fun u => by rw [hvb]; exact refValid_any e u
  have HA : ∀ u [Later w u], Calls Try.prog 64 #[.slice A xs.length C, .int .i64 e.owner, .int .u64 e.number] u fun r w' => r = .returned (.int .i64 ia) ∧ Below u.heap.size u w' := fun u i => by rw [hia]; exact refAt_any A C xs e.owner e.number u (HS u) hl
  have HB : ∀ u [Later w u], Calls Try.prog 65 #[.slice A xs.length C, .agg #[.int .i64 e.iDMachine, .int .i64 e.iDSerial]] u fun r w' => r = .returned (.int .i64 ib) ∧ Below u.heap.size u w' := fun u i => by rw [hib]; exact refByID_any A C xs (idE e) u (HS u) hl
  have hE := hide (show addErrR xs e = if vb = false then 1 else if 0 ≤ ia ∨ 0 ≤ ib then 5 else 0 by rw [hvb, hia, hib]; rfl)
  clear hvb hia hib
  go_enter Try.func35, Try.ntmps35
  go_upto_region 1 with fail
  refine wp_name ?_
  intro w0 hw0
  obtain ⟨B0, l0⟩ := box1 hw0
  clear hw0
  cases vb
  · have He := hide (show addErrR xs e = 1 by rw [hE.out]; rfl)
    have Hs := hide (show addR xs e = xs by unfold addR; rw [He.out]; rfl)
    go_wp2_with (go_at_call 17; refine (HV _).mono ?_; rintro r w1 ⟨rfl, hb1⟩; have l1 := later hb1)
    refine bodyPost_ret (v := .tuple #[.slice A xs.length C, .int .i64 1]) (by simp [results, Try.results35, go_sem]) rfl ?_
    exact ⟨xs, A, C, hide Hs.out.symm, by rw [He.out], hc, hm, HS _, below_of⟩
  by_cases h1 : 0 ≤ ia
  · have He := hide (show addErrR xs e = 5 by rw [hE.out]; simp [h1])
    have Hs := hide (show addR xs e = xs by unfold addR; rw [He.out]; rfl)
    go_wp2_with (first | (go_at_call 17; refine (HV _).mono ?_; rintro r w1 ⟨rfl, hb1⟩; have l1 := later hb1) | (go_at_call 64; refine (HA _).mono ?_; rintro r w2 ⟨rfl, hb2⟩; have l2 := later hb2))
    refine bodyPost_ret (v := .tuple #[.slice A xs.length C, .int .i64 5]) (by simp [results, Try.results35, go_sem]) rfl ?_
    exact ⟨xs, A, C, hide Hs.out.symm, by rw [He.out], hc, hm, HS _, below_of⟩
  by_cases h2 : 0 ≤ ib
  · have He := hide (show addErrR xs e = 5 by rw [hE.out]; simp [h2])
    have Hs := hide (show addR xs e = xs by unfold addR; rw [He.out]; rfl)
    go_wp2_with (first | (go_at_call 17; refine (HV _).mono ?_; rintro r w1 ⟨rfl, hb1⟩; have l1 := later hb1) | (go_at_call 64; refine (HA _).mono ?_; rintro r w2 ⟨rfl, hb2⟩; have l2 := later hb2) | (go_at_call 65; refine (HB _).mono ?_; rintro r w3 ⟨rfl, hb3⟩; have l3 := later hb3))
    refine bodyPost_ret (v := .tuple #[.slice A xs.length C, .int .i64 5]) (by simp [results, Try.results35, go_sem]) rfl ?_
    exact ⟨xs, A, C, hide Hs.out.symm, by rw [He.out], hc, hm, HS _, below_of⟩
  have He := hide (show addErrR xs e = 0 by rw [hE.out]; simp [h1, h2])
  have Hs := hide (show insR e xs = addR xs e by unfold addR; rw [He.out]; rfl)
  go_wp2_with (first | (go_at_call 17; refine (HV _).mono ?_; rintro r w1 ⟨rfl, hb1⟩; have l1 := later hb1) | (go_at_call 64; refine (HA _).mono ?_; rintro r w2 ⟨rfl, hb2⟩; have l2 := later hb2) | (go_at_call 65; refine (HB _).mono ?_; rintro r w3 ⟨rfl, hb3⟩; have l3 := later hb3) | (go_at_call 66; refine (refInsert_any A C xs e _ (HS _) hl).mono ?_; rintro r w4 ⟨q, A', c', hq, rfl, hc', hm', hs4, hb4⟩; have l4 := later hb4))
  refine bodyPost_ret (v := .tuple #[.slice A' q.length c', .int .i64 0]) (by simp [results, Try.results35, go_sem]) rfl ?_
  exact ⟨q, A', c', hide (hq.out.trans Hs.out), by rw [He.out], hc', hm', hs4.later _, below_of⟩
set_option maxRecDepth 100000 in
set_option maxHeartbeats 8000000 in
theorem refPut_any (A : Option Addr) (C : Nat) (xs : List StubE) (e : StubE) (w : World) (hs : SlAt StubE.cells 12 w A xs) (hl : xs.length ≤ 1000000) (hc : xs.length ≤ C) (hm : C ≤ maxLen) : Calls Try.prog 36 #[.slice A xs.length C, e.v] w (ModPost w (putR xs e) (putErrR xs e)) := by
  have HS : ∀ u [Later w u], SlAt StubE.cells 12 u A xs := fun u i => hs.below i.below
  obtain ⟨vb, hvb⟩ : ∃ b, b = validE e := ⟨_, rfl⟩
  obtain ⟨ia, hia⟩ : ∃ b, b = atR xs (keyE e) := ⟨_, rfl⟩
  obtain ⟨ib, hib⟩ : ∃ b, b = idR xs (idE e) := ⟨_, rfl⟩
  have HV : ∀ u, Calls Try.prog 17 #[e.v] u fun r w' => r = .returned (.bool vb) ∧ Below u.heap.size u w' := fun u => by rw [hvb]; exact refValid_any e u
  have HA : ∀ u [Later w u], Calls Try.prog 64 #[.slice A xs.length C, .int .i64 e.owner, .int .u64 e.number] u fun r w' => r = .returned (.int .i64 ia) ∧ Below u.heap.size u w' := fun u i => by rw [hia]; exact refAt_any A C xs e.owner e.number u (HS u) hl
  have HB : ∀ u [Later w u], Calls Try.prog 65 #[.slice A xs.length C, .agg #[.int .i64 e.iDMachine, .int .i64 e.iDSerial]] u fun r w' => r = .returned (.int .i64 ib) ∧ Below u.heap.size u w' := fun u i => by rw [hib]; exact refByID_any A C xs (idE e) u (HS u) hl
  have hE := hide (show putErrR xs e = if vb = false then 1 else if ia < 0 then 6 else if 0 ≤ ib ∧ ib ≠ ia then 5 else 0 by rw [hvb, hia, hib]; rfl)
  have hia' := hide hia
  clear hvb hia hib
  go_enter Try.func36, Try.ntmps36
  go_upto_region 1 with fail
  refine wp_name ?_
  intro w0 hw0
  obtain ⟨B0, l0⟩ := box1 hw0
  clear hw0
  cases vb
  · have He := hide (show putErrR xs e = 1 by rw [hE.out]; rfl)
    have Hs := hide (show putR xs e = xs by unfold putR; rw [He.out]; rfl)
    go_wp2_with (go_at_call 17; refine (HV _).mono ?_; rintro r w1 ⟨rfl, hb1⟩; have l1 := later hb1)
    refine bodyPost_ret (v := .tuple #[.slice A xs.length C, .int .i64 1]) (by simp [results, Try.results36, go_sem]) rfl ?_
    exact ⟨xs, A, C, hide Hs.out.symm, by rw [He.out], hc, hm, HS _, below_of⟩
  by_cases h1 : ia < 0
  · have He := hide (show putErrR xs e = 6 by rw [hE.out]; simp [h1])
    have Hs := hide (show putR xs e = xs by unfold putR; rw [He.out]; rfl)
    go_wp2_with (first | (go_at_call 17; refine (HV _).mono ?_; rintro r w1 ⟨rfl, hb1⟩; have l1 := later hb1) | (go_at_call 64; refine (HA _).mono ?_; rintro r w2 ⟨rfl, hb2⟩; have l2 := later hb2))
    refine bodyPost_ret (v := .tuple #[.slice A xs.length C, .int .i64 6]) (by simp [results, Try.results36, go_sem]) rfl ?_
    exact ⟨xs, A, C, hide Hs.out.symm, by rw [He.out], hc, hm, HS _, below_of⟩
  obtain ⟨j, x, hj, hx, -⟩ := at_lt (p := keyP e.owner e.number) (xs := xs) (by have := hia'.out; unfold atR at this; rw [show (keyE e).owner = e.owner from rfl, show (keyE e).number = e.number from rfl] at this; omega)
  have hjl : j < xs.length := (List.getElem?_eq_some_iff.1 hx).1
  obtain rfl : ia = (j : Int) := hia'.out.trans hj
  clear hx hj
  by_cases h2 : 0 ≤ ib
  · by_cases h3 : ib = (j : Int)
    · have h3' : ((ib : Int) != (j : Int)) = false := by simpa using h3
      have h4 : (0 : Int) ≤ (j : Int) := by omega
      have He := hide (show putErrR xs e = 0 by rw [hE.out]; simp [h3])
      have Hs := hide (show insR e (remI xs j) = putR xs e by unfold putR; rw [He.out, ← hia'.out]; rfl)
      subst h3
      go_upto_region 9 with (first | (go_at_call 17; refine (HV _).mono ?_; rintro r w1 ⟨rfl, hb1⟩; have l1 := later hb1) | (go_at_call 64; refine (HA _).mono ?_; rintro r w2 ⟨rfl, hb2⟩; have l2 := later hb2) | (go_at_call 65; refine (HB _).mono ?_; rintro r w3 ⟨rfl, hb3⟩; have l3 := later hb3))
      refine wp_name ?_
      intro w6 hw6
      have l6 := later_name' hw6 (inferInstance : Later w3 _)
      clear hw6
      go_region_held3 (fun w' => ∀ b [Later b w6], Later b w') ((intro b _; infer_instance))
        ((first
          | (go_at_call 67; refine (refWithout_any A C xs j _ (HS _) hl hc hm hjl).mono ?_; rintro r w7 ⟨q1, A1, c1, hq1, rfl, hc1, hm1, hs1, hb7⟩; have l7 := later hb7; have hq1l : q1.length ≤ 1000000 := by rw [hq1.out, remI_len hjl]; omega)
          | (go_at_call 66; refine (refInsert_any A1 c1 q1 e _ (hs1.later _) hq1l).mono ?_; rintro r w8 ⟨q2, A2, c2, hq2, rfl, hc2, hm2, hs2, hb8⟩; have l8 := later hb8)))
      all_goals go_wp2_with fail
      all_goals refine bodyPost_ret (v := .tuple #[.slice A2 q2.length c2, .int .i64 0]) (by simp [results, Try.results36, go_sem]) rfl ?_
      all_goals exact ⟨q2, A2, c2, hide (by rw [hq2.out, hq1.out]; exact Hs.out), by rw [He.out], hc2, hm2, hs2.later _, below_of⟩
    · have h3' : ((ib : Int) != (j : Int)) = true := by simpa using h3
      have He := hide (show putErrR xs e = 5 by rw [hE.out]; simp [h2, h3])
      have Hs := hide (show putR xs e = xs by unfold putR; rw [He.out]; rfl)
      go_wp2_with (first | (go_at_call 17; refine (HV _).mono ?_; rintro r w1 ⟨rfl, hb1⟩; have l1 := later hb1) | (go_at_call 64; refine (HA _).mono ?_; rintro r w2 ⟨rfl, hb2⟩; have l2 := later hb2) | (go_at_call 65; refine (HB _).mono ?_; rintro r w3 ⟨rfl, hb3⟩; have l3 := later hb3))
      refine bodyPost_ret (v := .tuple #[.slice A xs.length C, .int .i64 5]) (by simp [results, Try.results36, go_sem]) rfl ?_
      exact ⟨xs, A, C, hide Hs.out.symm, by rw [He.out], hc, hm, HS _, below_of⟩
  · have He := hide (show putErrR xs e = 0 by rw [hE.out]; simp [h2])
    have Hs := hide (show insR e (remI xs j) = putR xs e by unfold putR; rw [He.out, ← hia'.out]; rfl)
    go_upto_region 9 with (first | (go_at_call 17; refine (HV _).mono ?_; rintro r w1 ⟨rfl, hb1⟩; have l1 := later hb1) | (go_at_call 64; refine (HA _).mono ?_; rintro r w2 ⟨rfl, hb2⟩; have l2 := later hb2) | (go_at_call 65; refine (HB _).mono ?_; rintro r w3 ⟨rfl, hb3⟩; have l3 := later hb3))
    refine wp_name ?_
    intro w6 hw6
    have l6 := later_name' hw6 (inferInstance : Later w3 _)
    clear hw6
    go_region_held3 (fun w' => ∀ b [Later b w6], Later b w') ((intro b _; infer_instance))
      ((first
        | (go_at_call 67; refine (refWithout_any A C xs j _ (HS _) hl hc hm hjl).mono ?_; rintro r w7 ⟨q1, A1, c1, hq1, rfl, hc1, hm1, hs1, hb7⟩; have l7 := later hb7; have hq1l : q1.length ≤ 1000000 := by rw [hq1.out, remI_len hjl]; omega)
        | (go_at_call 66; refine (refInsert_any A1 c1 q1 e _ (hs1.later _) hq1l).mono ?_; rintro r w8 ⟨q2, A2, c2, hq2, rfl, hc2, hm2, hs2, hb8⟩; have l8 := later hb8)))
    all_goals go_wp2_with fail
    all_goals refine bodyPost_ret (v := .tuple #[.slice A2 q2.length c2, .int .i64 0]) (by simp [results, Try.results36, go_sem]) rfl ?_
    all_goals exact ⟨q2, A2, c2, hide (by rw [hq2.out, hq1.out]; exact Hs.out), by rw [He.out], hc2, hm2, hs2.later _, below_of⟩
end Go.Proofs.Ytgddapgdeaeggaa

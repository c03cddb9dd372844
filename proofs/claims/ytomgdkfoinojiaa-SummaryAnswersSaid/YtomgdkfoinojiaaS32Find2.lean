/-
  Contracts of the functions of this seat that each theorem names: what a call returns, and that it writes nothing that was there before. The conditions stand in each theorem.
-/
import Derived.Test.YtomgdkfoinojiaaS32Find
import Derived.Test.YtomgdkfoinojiaaOwnLib
namespace Go.Proofs.Ytomgdkfoinojiaa
open Go.RowKit
attribute [local go_sem] Instr.makeFunc
theorem sum_set5 {w : World} {g : Nat} {a0 a1 a2 a3 a4 v0 v1 v2 v3 v4 : Value} {t : TypeId} (h : w.heap[g]? = some (.cells #[a0, a1, a2, a3, a4] t (0, 0))) :
    (((((w.setCell ⟨g, 0, none⟩ v0).setCell ⟨g, 1, none⟩ v1).setCell ⟨g, 2, none⟩ v2).setCell ⟨g, 3, none⟩ v3).setCell ⟨g, 4, none⟩ v4).heap[g]? = some (.cells #[v0, v1, v2, v3, v4] t (0, 0)) :=
  (blk_set (blk_set (blk_set (blk_set (blk_set h 0 v0) 1 v1) 2 v2) 3 v3) 4 v4).trans (by simp)
theorem sum_below5 {B : Nat} {w0 w : World} {g : Nat} {v0 v1 v2 v3 v4 : Value} (h : Below B w0 w) (hg : B ≤ g) :
    Below B w0 (((((w.setCell ⟨g, 0, none⟩ v0).setCell ⟨g, 1, none⟩ v1).setCell ⟨g, 2, none⟩ v2).setCell ⟨g, 3, none⟩ v3).setCell ⟨g, 4, none⟩ v4) :=
  ((((h.setCell (p := ⟨g, 0, none⟩) hg v0).setCell (p := ⟨g, 1, none⟩) hg v1).setCell (p := ⟨g, 2, none⟩) hg v2).setCell (p := ⟨g, 3, none⟩) hg v3).setCell (p := ⟨g, 4, none⟩) hg v4
/-! The result lies in block G. W is the world ahead of its stores, hG its heap fact; x the summary. -/
set_option maxRecDepth 100000 in
set_option maxHeartbeats 4000000 in
theorem refFindS_any (ep : Int) (A : Option Addr) (c : Nat) (l : List SumE) (o n : Int) (w : World) (H : SumsAt w A l) (hl : l.length ≤ 1000000000) (Lo : Nat) (hLo : ∀ y ∈ l, y.inset ≠ [] → ∀ b o', y.A = some ⟨b, o', none⟩ → b < Lo) : Calls Try.prog 23 #[.agg #[.int .i64 ep, .slice A l.length c], .int .i64 o, .int .u64 n] w (FindP Lo o n l w) := by
  have HL := H.later
  have hl' : l.length ≤ 9223372036854775807 := by omega
  go_enter Try.func23, Try.ntmps23
  go_upto_region 1 with fail
  refine wp_name ?_
  intro w0 hw0
  obtain ⟨B0, B1, l0⟩ := box2 hw0
  clear hw0
  go_wp2_with fail
  go_loopw [8] (fun i wr => ∃ k : Nat, k ≤ l.length ∧ i = .int .i64 k ∧ NoneTo (isSum o n) l k ∧ Below w0.heap.size w0 wr) (fun i _ => l.length - (intOf i).toNat)
  case atStart => exact ⟨0, by omega, rfl, NoneTo.zero, Below.refl _ _⟩
  case round =>
    obtain ⟨k, hk, rfl, hno, hbr⟩ := hrel
    have lr := later hbr
    have Hno := hide hno
    clear hno
    by_cases hlt : k < l.length
    · have hki : (k : Int) < (l.length : Int) := by omega
      obtain ⟨b1, o1, x, rfl, hx, C1, F1, hc1, hc2⟩ := (HL wr).get hlt
      have Hx := hide hx
      clear hx
      have hnx : isSum o n x = false → NoneTo (isSum o n) l (k + 1) := fun h => Hno.out.succ Hx.out h
      have Hnx := hide hnx
      clear hnx
      cases hA : x.owner == o
      · have hp := hide (show isSum o n x = false by unfold isSum; rw [hA]; rfl)
        go_wp2_with fail
        go_roundw
        case rel => exact ⟨k + 1, by omega, by go_num, Hnx.out hp.out, below_of⟩
        case measure => simp [intOf]; omega
      · cases hB : x.number == n
        · have hp := hide (show isSum o n x = false by unfold isSum; rw [hA, hB]; rfl)
          go_wp2_with fail
          go_roundw
          case rel => exact ⟨k + 1, by omega, by go_num, Hnx.out hp.out, below_of⟩
          case measure => simp [intOf]; omega
        · have hf := hide (foundC_hit Hx.out (show isSum o n x = true by unfold isSum; rw [hA, hB]; rfl) Hno.out)
          have HF1 := hide (H.f x (List.mem_of_getElem? Hx.out))
          have HLo := hide (hLo x (List.mem_of_getElem? Hx.out))
          clear F1
          go_wp2_with fail
          have h1 := (B1 wr).1
          have hW := sum_set5 (v0 := .int .i64 x.owner) (v1 := .int .u64 x.number) (v2 := .bool x.rooted) (v3 := .int .i64 x.distance) (v4 := .slice x.A x.inset.length x.c) h1
          have r0 := blk_cell hW 0
          have r1 := blk_cell hW 1
          have r2 := blk_cell hW 2
          have r3 := blk_cell hW 3
          have r4 := blk_cell hW 4
          simp at r0 r1 r2 r3 r4
          refine bodyPost_ret (v := .tuple #[.agg #[.int .i64 x.owner, .int .u64 x.number, .bool x.rooted, .int .i64 x.distance, .slice x.A x.inset.length x.c], .bool true]) ?_ rfl ?_
          · simp [results, Try.results23, go_sem, r0, r1, r2, r3, r4]
          have hbw : Below w.heap.size w wr := below_of
          have hbW := sum_below5 (g := w.heap.size + 1) (v0 := .int .i64 x.owner) (v1 := .int .u64 x.number) (v2 := .bool x.rooted) (v3 := .int .i64 x.distance) (v4 := .slice x.A x.inset.length x.c) hbw (by omega)
          exact ⟨x, by rw [hf.out]; rfl, by rw [hf.out]; exact hide rfl, HF1.out.below hbW, fun hne b o' e => .inl (HLo.out hne b o' e), hc1, hc2, hbW⟩
    · have hk' : k = l.length := by omega
      subst hk'
      have hf := hide (foundC_miss Hno.out)
      go_wp2_with fail
      have h1 := (B1 wr).1
      have hW := sum_set5 (v0 := .int .i64 0) (v1 := .int .u64 0) (v2 := .bool false) (v3 := .int .i64 0) (v4 := .slice none 0 0) h1
      have r0 := blk_cell hW 0
      have r1 := blk_cell hW 1
      have r2 := blk_cell hW 2
      have r3 := blk_cell hW 3
      have r4 := blk_cell hW 4
      simp at r0 r1 r2 r3 r4
      refine bodyPost_ret (v := .tuple #[.agg #[.int .i64 0, .int .u64 0, .bool false, .int .i64 0, .slice none 0 0], .bool false]) ?_ rfl ?_
      · simp [results, Try.results23, go_sem, r0, r1, r2, r3, r4]
      have hbw : Below w.heap.size w wr := below_of
      exact ⟨⟨0, 0, false, 0, none, 0, []⟩, by rw [hf.out]; rfl, by rw [hf.out]; exact hide rfl, SlAt.nil, fun hne => absurd rfl hne, Nat.le_refl _, Nat.zero_le _, sum_below5 hbw (by omega)⟩
set_option maxRecDepth 100000 in
set_option maxHeartbeats 4000000 in
theorem findS_any (ep : Int) (A : Option Addr) (c : Nat) (l : List SumE) (o n : Int) (w : World) (H : SumsAt w A l) (hl : l.length ≤ 1000000000) (hil : ∀ x ∈ l, x.inset.length ≤ 1000000000) (Lo : Nat) : Calls Try.prog 18 #[.agg #[.int .i64 ep, .slice A l.length c], .int .i64 o, .int .u64 n] w (FindP Lo o n l w) := by
  have HL := H.later
  have hl' : l.length ≤ 9223372036854775807 := by omega
  go_enter Try.func18, Try.ntmps18
  go_upto_region 1 with fail
  refine wp_name ?_
  intro w0 hw0
  obtain ⟨B0, B1, B2, B3, l0⟩ := box4 hw0
  clear hw0
  have HI : ∀ u [Later w0 u], Calls Try.prog 37 #[.slice A l.length c, .func (.func 38) #[] #[.pointer (some ⟨w.heap.size + 1, 0, none⟩), .pointer (some ⟨w.heap.size + 1 + 1, 0, none⟩)]] u fun r w' => r = .returned (.int .i64 (idxOf (isSum o n) l)) ∧ Below u.heap.size u w' := fun u i => by haveI := (l0 w).trans i; exact idxSum_any w0 _ _ o n B1 B2 A c l u (HL u) hl
  rcases idxOf_cases (isSum o n) l with ⟨hi, hno⟩ | ⟨k, x, hi, hx, hp, hno⟩
  · have hf := hide (foundC_miss hno)
    rw [hi] at HI
    clear hi hno
    go_wp2_with (go_at_call 37; refine (HI _).mono ?_; rintro r w1 ⟨rfl, hb1⟩; have l1 := later hb1)
    have h1 := (B3 w1).1
    have hW := sum_set5 (v0 := .int .i64 0) (v1 := .int .u64 0) (v2 := .bool false) (v3 := .int .i64 0) (v4 := .slice none 0 0) h1
    have r0 := blk_cell hW 0
    have r1 := blk_cell hW 1
    have r2 := blk_cell hW 2
    have r3 := blk_cell hW 3
    have r4 := blk_cell hW 4
    simp at r0 r1 r2 r3 r4
    refine bodyPost_ret (v := .tuple #[.agg #[.int .i64 0, .int .u64 0, .bool false, .int .i64 0, .slice none 0 0], .bool false]) ?_ rfl ?_
    · simp [results, Try.results18, go_sem, r0, r1, r2, r3, r4]
    have hbw : Below w.heap.size w w1 := below_of
    exact ⟨⟨0, 0, false, 0, none, 0, []⟩, by rw [hf.out]; rfl, by rw [hf.out]; exact hide rfl, SlAt.nil, fun hne => absurd rfl hne, Nat.le_refl _, Nat.zero_le _, sum_below5 hbw (by omega)⟩
  · have hf := hide (foundC_hit hx hp hno)
    rw [hi] at HI
    have hk : k < l.length := (List.getElem?_eq_some_iff.1 hx).1
    have hkc : decide ((k : Int) < 0) = false := by simp
    have hixl := hil x (List.mem_of_getElem? hx)
    obtain ⟨b1, o1, x', rfl, hx', C1, F1, hc1, hc2⟩ := H.get hk
    rw [hx] at hx'
    injection hx' with hx'
    subst hx'
    have hki : (k : Int) < (l.length : Int) := by omega
    clear hi hno hx hp
    go_upto_region 5 with (go_at_call 37; refine (HI _).mono ?_; rintro r w1 ⟨rfl, hb1⟩; have l1 := later hb1)
    refine wp_name ?_
    intro w2 hw2
    obtain ⟨B9, l2⟩ := box1 hw2
    have h13 := (B3 w2).1
    have hz12 : w.heap.size + 1 + 1 + 1 < w1.heap.size := boxed_lt (boxed (B3 w1).1)
    clear hw2
    have l22 : Later w2 w2 := Later.refl
    go_wp2_with (go_at_call 39; refine (cloneIn_any x.A x.c x.inset _ (F1 _) hixl).mono ?_; rintro r w3 ⟨A2, c2, rfl, g1, g2, g3, hb3⟩; have l3 := later hb3)
    have h33 := blk_below h13 (show Below w2.heap.size w2 w3 from below_of)
    have h39 := (B9 w3).1
    have hs9 := (blk_far (p := ⟨w1.heap.size, 4, none⟩) (show w.heap.size + 1 + 1 + 1 ≠ w1.heap.size by omega) (.slice A2 x.inset.length c2)).trans h33
    have hW := sum_set5 (v0 := .int .i64 x.owner) (v1 := .int .u64 x.number) (v2 := .bool x.rooted) (v3 := .int .i64 x.distance) (v4 := .slice A2 x.inset.length c2) hs9
    have r0 := blk_cell hW 0
    have r1 := blk_cell hW 1
    have r2 := blk_cell hW 2
    have r3 := blk_cell hW 3
    have r4 := blk_cell hW 4
    simp at r0 r1 r2 r3 r4
    refine bodyPost_ret (v := .tuple #[.agg #[.int .i64 x.owner, .int .u64 x.number, .bool x.rooted, .int .i64 x.distance, .slice A2 x.inset.length c2], .bool true]) ?_ rfl ?_
    · simp [results, Try.results18, go_sem, r0, r1, r2, r3, r4]
    have hbw : Below w.heap.size w (w3.setCell ⟨w1.heap.size, 4, none⟩ (.slice A2 x.inset.length c2)) := (show Below w.heap.size w w3 from below_of).setCell (by show w.heap.size ≤ w1.heap.size; omega) _
    have q1 := g3.far (p := ⟨w1.heap.size, 4, none⟩) (own_off g3 h39 (by decide)) (.slice A2 x.inset.length c2)
    have k0 := hs9
    have q2 := q1.far (p := ⟨w.heap.size + 1 + 1 + 1, 0, none⟩) (own_off q1 k0 (by decide)) (.int .i64 x.owner)
    have k1 := blk_set k0 0 (.int .i64 x.owner)
    have q3 := q2.far (p := ⟨w.heap.size + 1 + 1 + 1, 1, none⟩) (own_off q2 k1 (by decide)) (.int .u64 x.number)
    have k2 := blk_set k1 1 (.int .u64 x.number)
    have q4 := q3.far (p := ⟨w.heap.size + 1 + 1 + 1, 2, none⟩) (own_off q3 k2 (by decide)) (.bool x.rooted)
    have k3 := blk_set k2 2 (.bool x.rooted)
    have q5 := q4.far (p := ⟨w.heap.size + 1 + 1 + 1, 3, none⟩) (own_off q4 k3 (by decide)) (.int .i64 x.distance)
    have k4 := blk_set k3 3 (.int .i64 x.distance)
    have q6 := q5.far (p := ⟨w.heap.size + 1 + 1 + 1, 4, none⟩) (own_off q5 k4 (by decide)) (.slice A2 x.inset.length c2)
    have hfr : x.inset ≠ [] → ∀ b o', A2 = some ⟨b, o', none⟩ → b < Lo ∨ w.heap.size ≤ b := fun hne b o' e => by
      rcases g3.form with ⟨_, h0⟩ | ⟨gg, cap, hv, hgb, _⟩
      · exact absurd h0 hne
      · injection hv with hv1
        rw [hv1] at e
        injection e with e
        injection e with e _
        have hz2 : w1.heap.size ≤ w2.heap.size := (l2 w1).below.size
        exact .inr (by omega)
    exact ⟨⟨x.owner, x.number, x.rooted, x.distance, A2, c2, x.inset⟩, by rw [hf.out]; rfl, by rw [hf.out]; exact hide rfl, (q6.at_ InsetE.enc).2.2, hfr, g1, g2, sum_below5 hbw (by omega)⟩
end Go.Proofs.Ytomgdkfoinojiaa

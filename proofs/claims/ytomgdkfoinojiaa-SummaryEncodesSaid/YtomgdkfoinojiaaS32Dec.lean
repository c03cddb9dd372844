/-
  Contracts of the functions of this seat that each theorem names: what a call returns, and that it writes nothing that was there before. The conditions stand in each theorem.
-/
import Derived.Test.YtomgdkfoinojiaaGrpM
import Derived.Test.YtomgdkfoinojiaaGrpR
set_option linter.unusedSimpArgs false
set_option linter.unusedVariables false
namespace Go.Proofs.Ytomgdkfoinojiaa
open Go.RowKit
theorem insTD : ElemT Try.prog 39 58 3 24 := ElemT.mk' (z := .agg #[.int .i64 0, .int .u64 0, .int .i64 0]) Try.underlying39 (by kernel_rfl) rfl
theorem sumTD : ElemT Try.prog 32 41 5 56 := ElemT.mk' (z := .agg #[.int .i64 0, .int .u64 0, .bool false, .int .i64 0, .slice none 0 0]) Try.underlying32 (by kernel_rfl) rfl
theorem wrap_i64_eq {n : Int} (h0 : 0 ≤ n) (h1 : n < 18446744073709551616) : IntKind.i64.wrap n = i64 n := by
  rw [IntKind.wrap_i64]; unfold i64; split <;> omega
/-- What Decode leaves. -/
def SDecPost (b : List Int) (w : World) (r : Ending) (w' : World) : Prop := ∃ (ep : Int) (q : List SumE) (A : Option Addr) (c : Nat) (e : Int), Hid (decS b = (ep, q.map SumE.con, e)) ∧ r = .returned (.tuple #[.agg #[.int .i64 ep, .slice A q.length c], .int .i64 e]) ∧ SumsAt w' A q ∧ Below w.heap.size w w'
set_option maxRecDepth 100000 in
set_option maxHeartbeats 16000000 in
theorem sdecode_any (bA : Option Addr) (bC : Nat) (b : List Int) (w : World) (hs : SlAt U8.cells 1 w bA b) (hl : b.length ≤ 1000000000) (hb : Bytes b) :
    Calls Try.prog 27 #[.slice bA b.length bC] w (SDecPost b w) := by
  go_enter Try.func27, Try.ntmps27
  go_upto_region 1 with fail
  refine wp_name ?_
  intro w1 hw1
  obtain ⟨B2, l1⟩ := box1 hw1
  clear hw1
  have hbel1 : Below w.heap.size w w1 := (l1 w).below
  have h2 := (B2 w1).1
  go_upto_region 2 with (go_at_call 49; refine (newRd_any bA bC b _ (hs.below hbel1) (by omega) hb).mono ?_; intro r w2 hh2; obtain ⟨wb, g, rfl, R2, hwb, hb2⟩ := hh2)
  have hg1 : w1.heap.size ≤ g := Nat.le_trans hwb.size R2.gw
  have h22 := blk_below h2 hb2
  have hB2 : Below w.heap.size w w2 := hbel1.trans (hb2.mono hbel1.size)
  obtain ⟨n0, s0, hU0⟩ : ∃ n s, rdU (b, 0) = (n, s) := ⟨_, _, rfl⟩
  have HU0 := uint_any wb g (b, 0) w2 R2
  have hr0 := rdU_range (st := (b, 0)) hb
  rw [hU0] at HU0 hr0
  dsimp only at HU0 hr0
  have hw0 := wrap_i64_eq hr0.1 hr0.2
  obtain ⟨ep, hep⟩ : ∃ ep, ep = i64 n0 := ⟨_, rfl⟩
  rw [← hep] at hw0
  have Hep := hide hep
  clear hep
  go_upto_region 3 with (go_at_call 50; refine HU0.mono ?_; intro r w3 hh3; obtain ⟨rfl, R3, on3⟩ := hh3)
  refine wp_name ?_
  intro w4 hw4
  obtain ⟨B5, l4⟩ := box1 hw4
  clear hw4
  have hz1 : w.heap.size < w1.heap.size := boxed_lt B2
  have onw24 : Only (fun k => k = g) w2 w4 := on3.trans (Only.of_below (l4 w3).below)
  have R4 := R3.below (l4 w3).below
  have hg3 := R3.lt
  have h24 := onw24.boxed h22 (by omega)
  have h54 := (B5 w4).1
  have hB4 : Below w.heap.size w w4 := hB2.trans (onw24.below (fun k e => by subst e; omega) (hB2.size))
  obtain ⟨n1, s1, hC0⟩ : ∃ n s, rdC 1024 s0 = (n, s) := ⟨_, _, rfl⟩
  have HC0 := count_any wb g 1024 s0 w4 R4 (by decide) (by decide)
  have hrc := rdC_range (m := 1024) (by decide) R4.by_
  rw [hC0] at HC0 hrc
  dsimp only at HC0 hrc
  obtain ⟨n, rfl⟩ : ∃ n : Nat, n1 = (n : Int) := ⟨n1.toNat, by omega⟩
  go_upto_region 4 with (go_at_call 51; refine HC0.mono ?_; intro r w5 hh5; obtain ⟨rfl, R5, on5⟩ := hh5)
  have h25 := on5.boxed h24 (by omega)
  have h55 := on5.boxed h54 (by omega)
  have hB5 : Below w.heap.size w w5 := hB4.trans (on5.below (fun k e => by subst e; omega) hB4.size)
  have hz35 : w3.heap.size < w5.heap.size := blk_lt h55
  have hg5 := R5.lt
  have hL := hide (show (rdS (b, 0)) = ((n0, (repR rdSu n s1).1), (repR rdSu n s1).2) by unfold rdS andR cntR; rw [hU0]; dsimp only; rw [hC0]; dsimp only; rw [Int.toNat_natCast])
  have hn24 : n ≤ 1024 := by omega
  clear hU0 hC0 HU0 HC0 R2 R3 R4 on3 on5 onw24 h22 h24 h54 B5 B2 hb2 h2 hr0 hrc
  go_wp2_with fail
  go_loopw [15] (fun iv wr => ∃ (k : Nat) (raws : List SumC) (st : St) (q : List SumE) (QA : Option Addr) (QC : Nat), k ≤ n ∧ iv = .int .i64 k ∧ Hid (repR rdSu k s1 = (raws, st)) ∧ Hid (q.map SumE.con = raws.map cvS) ∧ Hid (q.length = k) ∧ RD wb g wr st ∧
    Own SumE.cells 5 41 w5.heap.size wr (.slice QA q.length QC) q ∧ InsOwn w5.heap.size wr q ∧ wr.heap[w3.heap.size]? = some (.cells #[.int .i64 ep, .slice QA q.length QC] 34 (0, 0)) ∧ Only (fun k => k = g ∨ k = w3.heap.size) w5 wr) (fun iv _ => n - (intOf iv).toNat)
  case atStart => exact ⟨0, [], s1, [], none, 0, by omega, rfl, hide rfl, hide rfl, hide rfl, R5, Own.nil, (fun x hx => by cases hx), h55, Only.refl⟩
  case round =>
    obtain ⟨k, raws, st, q, QA, QC, hk, rfl, hrw, hq, hqk, Rr, hoq, hiq, h5r, honr⟩ := hrel
    by_cases hlt : k < n
    · have hki : (k : Int) < (n : Int) := by omega
      obtain ⟨u1, t1, hu1⟩ : ∃ n s, rdU st = (n, s) := ⟨_, _, rfl⟩
      obtain ⟨u2, t2, hu2⟩ : ∃ n s, rdU t1 = (n, s) := ⟨_, _, rfl⟩
      obtain ⟨u3, t3, hu3⟩ : ∃ n s, rdB t2 = (n, s) := ⟨_, _, rfl⟩
      obtain ⟨u4, t4, hu4⟩ : ∃ n s, rdU t3 = (n, s) := ⟨_, _, rfl⟩
      obtain ⟨u5, t5, hu5⟩ : ∃ n s, rdC 1024 t4 = (n, s) := ⟨_, _, rfl⟩
      have y0 := Rr.by_
      have y1 : Bytes t1.1 := by have := rdU_bytes (s := st) y0; rwa [hu1] at this
      have y2 : Bytes t2.1 := by have := rdU_bytes (s := t1) y1; rwa [hu2] at this
      have y3 : Bytes t3.1 := by have := rdB_bytes (s := t2) y2; rwa [hu3] at this
      have y4 : Bytes t4.1 := by have := rdU_bytes (s := t3) y3; rwa [hu4] at this
      have g1 := rdU_range (st := st) y0
      have g2 := rdU_range (st := t1) y1
      have g4 := rdU_range (st := t3) y3
      have g5 := rdC_range (m := 1024) (st := t4) (by decide) y4
      rw [hu1] at g1
      rw [hu2] at g2
      rw [hu4] at g4
      rw [hu5] at g5
      dsimp only at g1 g2 g4 g5
      obtain ⟨n2, rfl⟩ : ∃ n2 : Nat, u5 = (n2 : Int) := ⟨u5.toNat, by omega⟩
      have HU1 : ∀ W, RD wb g W st → Calls Try.prog 50 #[.pointer (some ⟨g, 0, none⟩)] W (RPost (.int .u64 u1) wb g t1 W) := fun W R => by have := uint_any wb g st W R; rw [hu1] at this; exact this
      have HU2 : ∀ W, RD wb g W t1 → Calls Try.prog 50 #[.pointer (some ⟨g, 0, none⟩)] W (RPost (.int .u64 u2) wb g t2 W) := fun W R => by have := uint_any wb g t1 W R; rw [hu2] at this; exact this
      have HU3 : ∀ W, RD wb g W t2 → Calls Try.prog 52 #[.pointer (some ⟨g, 0, none⟩)] W (RPost (.bool u3) wb g t3 W) := fun W R => by have := bool_any wb g t2 W R; rw [hu3] at this; exact this
      have HU4 : ∀ W, RD wb g W t3 → Calls Try.prog 50 #[.pointer (some ⟨g, 0, none⟩)] W (RPost (.int .u64 u4) wb g t4 W) := fun W R => by have := uint_any wb g t3 W R; rw [hu4] at this; exact this
      have HU5 : ∀ W, RD wb g W t4 → Calls Try.prog 51 #[.pointer (some ⟨g, 0, none⟩), .int .i64 1024] W (RPost (.int .i64 (n2 : Int)) wb g t5 W) := fun W R => by have := count_any wb g 1024 t4 W R (by decide) (by decide); rw [hu5] at this; exact this
      have HRd := hide (show rdSu st = (⟨u1, u2, u3, u4, (repR rdIn n2 t5).1⟩, (repR rdIn n2 t5).2) by unfold rdSu andR cntR; simp only [hu1, hu2, hu3, hu4, hu5, Int.toNat_natCast])
      have e1 := wrap_i64_eq g1.1 g1.2
      have e4 := wrap_i64_eq g4.1 g4.2
      obtain ⟨v1, hv1⟩ : ∃ v, v = i64 u1 := ⟨_, rfl⟩
      obtain ⟨v4, hv4⟩ : ∃ v, v = i64 u4 := ⟨_, rfl⟩
      rw [← hv1] at e1
      rw [← hv4] at e4
      have Hv1 := hide hv1
      have Hv4 := hide hv4
      clear hv1 hv4 hu1 hu2 hu3 hu4 hu5 y0 y1 y2 y3 y4 g1 g2 g4
      go_upto_region 6 with (first
        | (go_at_call 52; refine (HU3 _ Q2).mono ?_; intro r x3 hh; obtain ⟨rfl, Q3, o3⟩ := hh)
        | (go_at_call 50; refine (HU4 _ Q3).mono ?_; intro r x4 hh; obtain ⟨rfl, Q4, o4⟩ := hh)
        | (go_at_call 50; refine (HU2 _ Q1).mono ?_; intro r x2 hh; obtain ⟨rfl, Q2, o2⟩ := hh)
        | (go_at_call 50; refine (HU1 _ Rr).mono ?_; intro r x1 hh; obtain ⟨rfl, Q1, o1⟩ := hh))
      refine wp_name ?_
      intro x5 hx5
      obtain ⟨B6, l6⟩ := box1 hx5
      clear hx5
      have ona : Only (fun k => k = g) wr x4 := ((o1.trans o2).trans o3).trans o4
      have onx : Only (fun k => k = g) wr x5 := ona.trans (Only.of_below (l6 x4).below)
      have Q5 := Q4.below (l6 x4).below
      have h6 := (B6 x5).1
      have hg4 := Q4.lt
      have hzr := honr.size
      go_upto_region 7 with (go_at_call 51; refine (HU5 _ Q5).mono ?_; intro r x6 hh; obtain ⟨rfl, Q6, o6⟩ := hh)
      have h66 := o6.boxed h6 (by omega)
      have on6 : Only (fun k => k = g) wr x6 := onx.trans o6
      have h5r6 := on6.boxed h5r (by omega)
      have hoq6 := on6.own hoq (fun j e e2 => by have := (World.ownsRow.lt hoq _ e).1; omega)
      have hiq6 : InsOwn w5.heap.size x6 q := fun y hy => on6.own (hiq y hy) (fun j e e2 => by have := (World.ownsRow.lt (hiq y hy) _ e).1; omega)
      have hz6 : wr.heap.size ≤ x6.heap.size := on6.size
      have hz46 : x4.heap.size < x6.heap.size := blk_lt h66
      have hz4r : wr.heap.size ≤ x4.heap.size := ona.size
      have Hq1 := hide (show ∀ j, (Value.slice QA q.length QC).ownBlock = some j → j < wr.heap.size from fun j e => (World.ownsRow.lt hoq _ e).2)
      have Hq2 := hide (show ∀ y ∈ q, ∀ j, (Value.slice y.A y.inset.length y.c).ownBlock = some j → j < wr.heap.size from fun y hy j e => (World.ownsRow.lt (hiq y hy) _ e).2)
      clear HU1 HU2 HU3 HU4 HU5 Q1 Q2 Q3 Q4 Q5 o1 o2 o3 o4 o6 onx ona h6 B6 hoq hiq h5r Rr
      have hn64 : n2 ≤ 1024 := by omega
      go_wp2_with fail
      go_loopw [30] (fun iv wr => ∃ (m : Nat) (rawI : List InsetE) (st' : St) (il : List InsetE) (IA : Option Addr) (IC : Nat), m ≤ n2 ∧ iv = .int .i64 m ∧ Hid (repR rdIn m t5 = (rawI, st')) ∧ Hid (il = rawI.map cvI) ∧ Hid (il.length = m) ∧ RD wb g wr st' ∧
        Own InsetE.cells 3 58 x6.heap.size wr (.slice IA il.length IC) il ∧ wr.heap[x4.heap.size]? = some (.cells #[.int .i64 v1, .int .u64 u2, .bool u3, .int .i64 v4, .slice IA il.length IC] 41 (0, 0)) ∧ Only (fun k => k = g ∨ k = x4.heap.size) x6 wr) (fun iv _ => n2 - (intOf iv).toNat)
      case atStart => exact ⟨0, [], t5, [], none, 0, by omega, rfl, hide rfl, hide rfl, hide rfl, Q6, Own.nil, h66, Only.refl⟩
      case round =>
        obtain ⟨m, rawI, st', il, IA, IC, hm, rfl, hri, hil, hilm, Ry, hoi, h6y, hony⟩ := hrel
        by_cases hml : m < n2
        · have hmi : (m : Int) < (n2 : Int) := by omega
          obtain ⟨c1, d1, hc1⟩ : ∃ n s, rdU st' = (n, s) := ⟨_, _, rfl⟩
          obtain ⟨c2, d2, hc2⟩ : ∃ n s, rdU d1 = (n, s) := ⟨_, _, rfl⟩
          obtain ⟨c3, d3, hc3⟩ : ∃ n s, rdU d2 = (n, s) := ⟨_, _, rfl⟩
          have y0 := Ry.by_
          have y1 : Bytes d1.1 := by have := rdU_bytes (s := st') y0; rwa [hc1] at this
          have y2 : Bytes d2.1 := by have := rdU_bytes (s := d1) y1; rwa [hc2] at this
          have g1 := rdU_range (st := st') y0
          have g3 := rdU_range (st := d2) y2
          rw [hc1] at g1
          rw [hc3] at g3
          dsimp only at g1 g3
          have HV1 : ∀ W, RD wb g W st' → Calls Try.prog 50 #[.pointer (some ⟨g, 0, none⟩)] W (RPost (.int .u64 c1) wb g d1 W) := fun W R => by have := uint_any wb g st' W R; rw [hc1] at this; exact this
          have HV2 : ∀ W, RD wb g W d1 → Calls Try.prog 50 #[.pointer (some ⟨g, 0, none⟩)] W (RPost (.int .u64 c2) wb g d2 W) := fun W R => by have := uint_any wb g d1 W R; rw [hc2] at this; exact this
          have HV3 : ∀ W, RD wb g W d2 → Calls Try.prog 50 #[.pointer (some ⟨g, 0, none⟩)] W (RPost (.int .u64 c3) wb g d3 W) := fun W R => by have := uint_any wb g d2 W R; rw [hc3] at this; exact this
          have HRi := hide (show rdIn st' = (⟨c1, c2, c3⟩, d3) by unfold rdIn andR; simp only [hc1, hc2, hc3])
          have f1 := wrap_i64_eq g1.1 g1.2
          have f3 := wrap_i64_eq g3.1 g3.2
          obtain ⟨a1, ha1⟩ : ∃ v, v = i64 c1 := ⟨_, rfl⟩
          obtain ⟨a3, ha3⟩ : ∃ v, v = i64 c3 := ⟨_, rfl⟩
          rw [← ha1] at f1
          rw [← ha3] at f3
          have Ha1 := hide ha1
          have Ha3 := hide ha3
          have hil1 := hide (show il.length ≤ 1024 by have := hilm.out; omega)
          have hne : ¬ x4.heap.size = g := by omega
          have hno : ∀ j, (Value.slice IA il.length IC).ownBlock = some j → ¬ j = g := fun j e e2 => by have := (World.ownsRow.lt hoi _ e).1; omega
          have hno2 : ∀ j, (Value.slice IA il.length IC).ownBlock = some j → ¬ j = x4.heap.size := fun j e e2 => by have := (World.ownsRow.lt hoi _ e).1; omega
          have BL := boxed h6y
          have lyy : Later wr wr := Later.refl
          clear ha1 ha3 hc1 hc2 hc3 y0 y1 y2 g1 g3
          go_upto_region 8 with fail
          refine wp_region_held_drew (S := fun _ => True) (by kernel_rfl) trivial (fun hHeld => ?_)
          refine wpAnyH_take (i := 0) (oi := _) (v := ?_) rfl (by kernel_rfl) (by kernel_rfl) (by kernel_rfl) (fun _ _ _ h => h) (Or.inl ⟨by rfl, ?_⟩) (by assumption) ?_
          rotate_left 1
          · (intro wy hSw; (try dsimp only at hSw); go_simp; try with_reducible rfl)
          (try simp only [Act.put])
          refine wpAnyH_take (i := 2) (oi := _) (v := ?_) rfl (by kernel_rfl) (by kernel_rfl) (by kernel_rfl) (fun _ _ _ h => h) (Or.inl ⟨by rfl, ?_⟩) (by assumption) ?_
          rotate_left 1
          · (intro wy hSw; (try dsimp only at hSw); go_simp; try with_reducible rfl)
          (try simp only [Act.put])
          refine wpAnyH_take (i := 5) (oi := _) (v := ?_) rfl (by kernel_rfl) (by kernel_rfl) (by kernel_rfl) (fun _ _ _ h => h) (Or.inl ⟨by rfl, ?_⟩) (by assumption) ?_
          rotate_left 1
          · (intro wy hSw; (try dsimp only at hSw); go_simp; try with_reducible rfl)
          (try simp only [Act.put])
          refine wpAnyH_take (i := 7) (oi := _) (v := ?_) rfl (by kernel_rfl) (by kernel_rfl) (by kernel_rfl) (fun _ _ _ h => h) (Or.inl ⟨by rfl, ?_⟩) (by assumption) ?_
          rotate_left 1
          · (intro wy hSw; (try dsimp only at hSw); go_simp; try with_reducible rfl)
          (try simp only [Act.put])
          refine wpAnyH_ready (rs := [1, 3]) (by kernel_rfl) (by simp) ?_
          refine AllReadyH.cons (o := _) rfl (fun K9 hK9 => ?_) (AllReadyH.cons (o := _) rfl (fun K9 hK9 => ?_) AllReadyH.nil)
          · go_simp
            refine hK9.out _ _ (by trivial) (fun hHeld => ?_)
            clear hK9 K9
            (try simp only [Act.put])
            refine wpAnyH_ready (rs := [3]) (by kernel_rfl) (by simp) ?_
            refine AllReadyH.cons (o := _) rfl (fun K9 hK9 => ?_) AllReadyH.nil
            go_simp
            refine (HV1 _ Ry.drew).mono ?_
            intro r z1 hh
            obtain ⟨rfl, P1, p1⟩ := hh
            have k1 := p1.boxed h6y hne
            have BK1 := boxed k1
            (try dsimp only)
            refine hK9.out _ _ (by trivial) (fun hHeld => ?_)
            clear hK9 K9
            (try simp only [Act.put])
            refine wpAnyH_take (i := 4) (oi := _) (v := ?_) rfl (by kernel_rfl) (by kernel_rfl) (by kernel_rfl) (fun _ _ _ h => h) (Or.inl ⟨by rfl, ?_⟩) (by assumption) ?_
            rotate_left 1
            · (intro wy hSw; (try dsimp only at hSw); go_simp; try with_reducible rfl)
            (try simp only [Act.put])
            refine wpAnyH_ready (rs := [6]) (by kernel_rfl) (by simp) ?_
            refine AllReadyH.cons (o := _) rfl (fun K9 hK9 => ?_) AllReadyH.nil
            go_simp
            refine (HV2 _ P1).mono ?_
            intro r z2 hh
            obtain ⟨rfl, P2, p2⟩ := hh
            have k2 := p2.boxed k1 hne
            have BK2 := boxed k2
            (try dsimp only)
            refine hK9.out _ _ (by trivial) (fun hHeld => ?_)
            clear hK9 K9
            (try simp only [Act.put])
            refine wpAnyH_ready (rs := [8]) (by kernel_rfl) (by simp) ?_
            refine AllReadyH.cons (o := _) rfl (fun K9 hK9 => ?_) AllReadyH.nil
            go_simp
            refine (HV3 _ P2).mono ?_
            intro r z3 hh
            obtain ⟨rfl, P3, p3⟩ := hh
            have k3 := p3.boxed k2 hne
            have BK3 := boxed k3
            (try dsimp only)
            refine hK9.out _ _ (by trivial) (fun hHeld => ?_)
            clear hK9 K9
            (try simp only [Act.put])
            refine wpAnyH_take (i := 9) (oi := _) (v := ?_) rfl (by kernel_rfl) (by kernel_rfl) (by kernel_rfl) (fun _ _ _ h => h) (Or.inl ⟨by rfl, ?_⟩) (by assumption) ?_
            rotate_left 1
            · (intro wy hSw; (try dsimp only at hSw); go_simp; try with_reducible rfl)
            (try simp only [Act.put])
            refine wpAnyH_take (i := 10) (oi := _) (v := ?_) rfl (by kernel_rfl) (by kernel_rfl) (by kernel_rfl) (fun _ _ _ h => h) (Or.inl ⟨by rfl, ?_⟩) (by assumption) ?_
            rotate_left 1
            · (intro wy hSw; (try dsimp only at hSw); go_simp; try with_reducible rfl)
            (try simp only [Act.put])
            refine wpAnyH_ready (rs := [11]) (by kernel_rfl) (by simp) ?_
            refine AllReadyH.cons (o := _) rfl (fun K9 hK9 => ?_) AllReadyH.nil
            go_simp
            refine hK9.out _ _ (by trivial) (fun hHeld => ?_)
            clear hK9 K9
            (try simp only [Act.put])
            refine wpAnyH_ready (rs := [12]) (by kernel_rfl) (by simp) ?_
            refine AllReadyH.cons (o := _) rfl (fun K9 hK9 => ?_) AllReadyH.nil
            have onw : Only (fun k => k = g) wr.drew z3 := (p1.trans p2).trans p3
            have hov := onw.own (hoi.later _) hno
            have hzz : x6.heap.size ≤ z3.heap.size := Nat.le_trans hony.size onw.size
            refine step_app (P := Try.prog) rfl (.tmp 33) (.tmp 43) (by rfl) InsetE.enc insTD _ _ [⟨a1, c2, a3⟩] il (.slice IA il.length IC) (by rfl) (by rfl) (m := 1) (n := il.length + 1) rfl rfl (hov.later _) (blk_slAt InsetE.enc (fr := (0, 0)) (e := 58) (heap_alloc_new _ _) [⟨a1, c2, a3⟩] rfl) (by have := hil1.out; omega) (by have := hil1.out; unfold maxLen; omega) (by simp <;> omega) ?_
            intro A9 c9 z9 ho9 hm9 hb9 hg9
            have on9 : Only (fun k => (Value.slice IA il.length IC).ownBlock = some k) z3 z9 := (Only.of_below (w' := z3.alloc _) ((Below.refl _ _).alloc (Nat.le_refl _) _)).trans (Only.of_grown hg9)
            have k9 := on9.boxed k3 (fun e => hno2 _ e rfl)
            have R9 := P3.only on9 (fun k hk => ⟨by have := (World.ownsRow.lt hoi _ hk).1; have := Q6.gw; have := Q6.lt; omega, hno _ hk⟩)
            have BK9 := boxed k9
            refine hK9.out _ _ (by trivial) (fun hHeld => ?_)
            clear hK9 K9
            (try simp only [Act.put])
            refine wpAnyH_take (i := 13) (oi := _) (v := ?_) rfl (by kernel_rfl) (by kernel_rfl) (by kernel_rfl) (fun _ _ _ h => h) (Or.inl ⟨by rfl, ?_⟩) (by assumption) ?_
            rotate_left 1
            · (intro wy hSw; (try dsimp only at hSw); go_simp; try with_reducible rfl)
            (try simp only [Act.put])
            refine wpAnyH_ready (rs := [14]) (by kernel_rfl) (by simp) ?_
            refine AllReadyH.cons (o := _) rfl (fun K9 hK9 => ?_) AllReadyH.nil
            go_simp
            refine hK9.out _ _ (by trivial) (fun hHeld => ?_)
            clear hK9 K9
            (try simp only [Act.put])
            refine wpAnyH_done (by kernel_rfl) ?_ _
            go_wp2_with fail
            have on8 : Only (fun k => k = g ∨ k = x4.heap.size ∨ (Value.slice IA il.length IC).ownBlock = some k) wr (z9.setCell ⟨x4.heap.size, 4, none⟩ (.slice A9 (il.length + 1) c9)) :=
              Only.setCell (((Only.of_below (w' := wr.drew) ((Below.refl _ _).drew)).trans (onw.mono fun k _ h => .inl h)).trans (on9.mono fun k _ h => .inr (.inr h))) (.inl (.inr (.inl rfl))) _
            have hwbg := Q6.gw
            go_roundw
            case rel =>
              refine ⟨m + 1, rawI ++ [⟨c1, c2, c3⟩], d3, il ++ [⟨a1, c2, a3⟩], A9, c9, by omega, by go_num, hide (by unfold repR; rw [hri.out]; simp only [HRi.out]), hide (by rw [hil.out, List.map_append, Ha1.out, Ha3.out]; rfl), hide (by rw [List.length_append, hilm.out]; rfl), ?_, ?_, ?_, ?_⟩
              · exact R9.only (Only.setCell (s := fun k => k = x4.heap.size) Only.refl (.inl rfl) _) (fun k hk => ⟨by omega, by omega⟩)
              · rw [List.length_append]
                exact ho9.far (p := ⟨x4.heap.size, 4, none⟩) (fun e => absurd (World.ownsRow.lt ho9 _ e).1 (by show ¬ x6.heap.size ≤ x4.heap.size; omega)) _
              · rw [List.length_append]
                exact (blk_set k9 4 _).trans (by simp)
              · exact hony.trans' on8 (fun k hk h => by
                  rcases h with h | h | h
                  · exact .inl h
                  · exact .inr h
                  · have := (World.ownsRow.lt hoi _ h).1; omega)
            case measure => simp [intOf]; omega
          · go_simp
            refine (HV1 _ Ry.drew).mono ?_
            intro r z1 hh
            obtain ⟨rfl, P1, p1⟩ := hh
            have k1 := p1.boxed h6y hne
            have BK1 := boxed k1
            (try dsimp only)
            refine hK9.out _ _ (by trivial) (fun hHeld => ?_)
            clear hK9 K9
            (try simp only [Act.put])
            refine wpAnyH_take (i := 4) (oi := _) (v := ?_) rfl (by kernel_rfl) (by kernel_rfl) (by kernel_rfl) (fun _ _ _ h => h) (Or.inl ⟨by rfl, ?_⟩) (by assumption) ?_
            rotate_left 1
            · (intro wy hSw; (try dsimp only at hSw); go_simp; try with_reducible rfl)
            (try simp only [Act.put])
            refine wpAnyH_ready (rs := [1, 6]) (by kernel_rfl) (by simp) ?_
            refine AllReadyH.cons (o := _) rfl (fun K9 hK9 => ?_) (AllReadyH.cons (o := _) rfl (fun K9 hK9 => ?_) AllReadyH.nil)
            · go_simp
              refine hK9.out _ _ (by trivial) (fun hHeld => ?_)
              clear hK9 K9
              (try simp only [Act.put])
              refine wpAnyH_ready (rs := [6]) (by kernel_rfl) (by simp) ?_
              refine AllReadyH.cons (o := _) rfl (fun K9 hK9 => ?_) AllReadyH.nil
              go_simp
              refine (HV2 _ P1).mono ?_
              intro r z2 hh
              obtain ⟨rfl, P2, p2⟩ := hh
              have k2 := p2.boxed k1 hne
              have BK2 := boxed k2
              (try dsimp only)
              refine hK9.out _ _ (by trivial) (fun hHeld => ?_)
              clear hK9 K9
              (try simp only [Act.put])
              refine wpAnyH_ready (rs := [8]) (by kernel_rfl) (by simp) ?_
              refine AllReadyH.cons (o := _) rfl (fun K9 hK9 => ?_) AllReadyH.nil
              go_simp
              refine (HV3 _ P2).mono ?_
              intro r z3 hh
              obtain ⟨rfl, P3, p3⟩ := hh
              have k3 := p3.boxed k2 hne
              have BK3 := boxed k3
              (try dsimp only)
              refine hK9.out _ _ (by trivial) (fun hHeld => ?_)
              clear hK9 K9
              (try simp only [Act.put])
              refine wpAnyH_take (i := 9) (oi := _) (v := ?_) rfl (by kernel_rfl) (by kernel_rfl) (by kernel_rfl) (fun _ _ _ h => h) (Or.inl ⟨by rfl, ?_⟩) (by assumption) ?_
              rotate_left 1
              · (intro wy hSw; (try dsimp only at hSw); go_simp; try with_reducible rfl)
              (try simp only [Act.put])
              refine wpAnyH_take (i := 10) (oi := _) (v := ?_) rfl (by kernel_rfl) (by kernel_rfl) (by kernel_rfl) (fun _ _ _ h => h) (Or.inl ⟨by rfl, ?_⟩) (by assumption) ?_
              rotate_left 1
              · (intro wy hSw; (try dsimp only at hSw); go_simp; try with_reducible rfl)
              (try simp only [Act.put])
              refine wpAnyH_ready (rs := [11]) (by kernel_rfl) (by simp) ?_
              refine AllReadyH.cons (o := _) rfl (fun K9 hK9 => ?_) AllReadyH.nil
              go_simp
              refine hK9.out _ _ (by trivial) (fun hHeld => ?_)
              clear hK9 K9
              (try simp only [Act.put])
              refine wpAnyH_ready (rs := [12]) (by kernel_rfl) (by simp) ?_
              refine AllReadyH.cons (o := _) rfl (fun K9 hK9 => ?_) AllReadyH.nil
              have onw : Only (fun k => k = g) wr.drew z3 := (p1.trans p2).trans p3
              have hov := onw.own (hoi.later _) hno
              have hzz : x6.heap.size ≤ z3.heap.size := Nat.le_trans hony.size onw.size
              refine step_app (P := Try.prog) rfl (.tmp 33) (.tmp 43) (by rfl) InsetE.enc insTD _ _ [⟨a1, c2, a3⟩] il (.slice IA il.length IC) (by rfl) (by rfl) (m := 1) (n := il.length + 1) rfl rfl (hov.later _) (blk_slAt InsetE.enc (fr := (0, 0)) (e := 58) (heap_alloc_new _ _) [⟨a1, c2, a3⟩] rfl) (by have := hil1.out; omega) (by have := hil1.out; unfold maxLen; omega) (by simp <;> omega) ?_
              intro A9 c9 z9 ho9 hm9 hb9 hg9
              have on9 : Only (fun k => (Value.slice IA il.length IC).ownBlock = some k) z3 z9 := (Only.of_below (w' := z3.alloc _) ((Below.refl _ _).alloc (Nat.le_refl _) _)).trans (Only.of_grown hg9)
              have k9 := on9.boxed k3 (fun e => hno2 _ e rfl)
              have R9 := P3.only on9 (fun k hk => ⟨by have := (World.ownsRow.lt hoi _ hk).1; have := Q6.gw; have := Q6.lt; omega, hno _ hk⟩)
              have BK9 := boxed k9
              refine hK9.out _ _ (by trivial) (fun hHeld => ?_)
              clear hK9 K9
              (try simp only [Act.put])
              refine wpAnyH_take (i := 13) (oi := _) (v := ?_) rfl (by kernel_rfl) (by kernel_rfl) (by kernel_rfl) (fun _ _ _ h => h) (Or.inl ⟨by rfl, ?_⟩) (by assumption) ?_
              rotate_left 1
              · (intro wy hSw; (try dsimp only at hSw); go_simp; try with_reducible rfl)
              (try simp only [Act.put])
              refine wpAnyH_ready (rs := [14]) (by kernel_rfl) (by simp) ?_
              refine AllReadyH.cons (o := _) rfl (fun K9 hK9 => ?_) AllReadyH.nil
              go_simp
              refine hK9.out _ _ (by trivial) (fun hHeld => ?_)
              clear hK9 K9
              (try simp only [Act.put])
              refine wpAnyH_done (by kernel_rfl) ?_ _
              go_wp2_with fail
              have on8 : Only (fun k => k = g ∨ k = x4.heap.size ∨ (Value.slice IA il.length IC).ownBlock = some k) wr (z9.setCell ⟨x4.heap.size, 4, none⟩ (.slice A9 (il.length + 1) c9)) :=
                Only.setCell (((Only.of_below (w' := wr.drew) ((Below.refl _ _).drew)).trans (onw.mono fun k _ h => .inl h)).trans (on9.mono fun k _ h => .inr (.inr h))) (.inl (.inr (.inl rfl))) _
              have hwbg := Q6.gw
              go_roundw
              case rel =>
                refine ⟨m + 1, rawI ++ [⟨c1, c2, c3⟩], d3, il ++ [⟨a1, c2, a3⟩], A9, c9, by omega, by go_num, hide (by unfold repR; rw [hri.out]; simp only [HRi.out]), hide (by rw [hil.out, List.map_append, Ha1.out, Ha3.out]; rfl), hide (by rw [List.length_append, hilm.out]; rfl), ?_, ?_, ?_, ?_⟩
                · exact R9.only (Only.setCell (s := fun k => k = x4.heap.size) Only.refl (.inl rfl) _) (fun k hk => ⟨by omega, by omega⟩)
                · rw [List.length_append]
                  exact ho9.far (p := ⟨x4.heap.size, 4, none⟩) (fun e => absurd (World.ownsRow.lt ho9 _ e).1 (by show ¬ x6.heap.size ≤ x4.heap.size; omega)) _
                · rw [List.length_append]
                  exact (blk_set k9 4 _).trans (by simp)
                · exact hony.trans' on8 (fun k hk h => by
                    rcases h with h | h | h
                    · exact .inl h
                    · exact .inr h
                    · have := (World.ownsRow.lt hoi _ h).1; omega)
              case measure => simp [intOf]; omega
            · go_simp
              refine (HV2 _ P1).mono ?_
              intro r z2 hh
              obtain ⟨rfl, P2, p2⟩ := hh
              have k2 := p2.boxed k1 hne
              have BK2 := boxed k2
              (try dsimp only)
              refine hK9.out _ _ (by trivial) (fun hHeld => ?_)
              clear hK9 K9
              (try simp only [Act.put])
              refine wpAnyH_ready (rs := [1, 8]) (by kernel_rfl) (by simp) ?_
              refine AllReadyH.cons (o := _) rfl (fun K9 hK9 => ?_) (AllReadyH.cons (o := _) rfl (fun K9 hK9 => ?_) AllReadyH.nil)
              · go_simp
                refine hK9.out _ _ (by trivial) (fun hHeld => ?_)
                clear hK9 K9
                (try simp only [Act.put])
                refine wpAnyH_ready (rs := [8]) (by kernel_rfl) (by simp) ?_
                refine AllReadyH.cons (o := _) rfl (fun K9 hK9 => ?_) AllReadyH.nil
                go_simp
                refine (HV3 _ P2).mono ?_
                intro r z3 hh
                obtain ⟨rfl, P3, p3⟩ := hh
                have k3 := p3.boxed k2 hne
                have BK3 := boxed k3
                (try dsimp only)
                refine hK9.out _ _ (by trivial) (fun hHeld => ?_)
                clear hK9 K9
                (try simp only [Act.put])
                refine wpAnyH_take (i := 9) (oi := _) (v := ?_) rfl (by kernel_rfl) (by kernel_rfl) (by kernel_rfl) (fun _ _ _ h => h) (Or.inl ⟨by rfl, ?_⟩) (by assumption) ?_
                rotate_left 1
                · (intro wy hSw; (try dsimp only at hSw); go_simp; try with_reducible rfl)
                (try simp only [Act.put])
                refine wpAnyH_take (i := 10) (oi := _) (v := ?_) rfl (by kernel_rfl) (by kernel_rfl) (by kernel_rfl) (fun _ _ _ h => h) (Or.inl ⟨by rfl, ?_⟩) (by assumption) ?_
                rotate_left 1
                · (intro wy hSw; (try dsimp only at hSw); go_simp; try with_reducible rfl)
                (try simp only [Act.put])
                refine wpAnyH_ready (rs := [11]) (by kernel_rfl) (by simp) ?_
                refine AllReadyH.cons (o := _) rfl (fun K9 hK9 => ?_) AllReadyH.nil
                go_simp
                refine hK9.out _ _ (by trivial) (fun hHeld => ?_)
                clear hK9 K9
                (try simp only [Act.put])
                refine wpAnyH_ready (rs := [12]) (by kernel_rfl) (by simp) ?_
                refine AllReadyH.cons (o := _) rfl (fun K9 hK9 => ?_) AllReadyH.nil
                have onw : Only (fun k => k = g) wr.drew z3 := (p1.trans p2).trans p3
                have hov := onw.own (hoi.later _) hno
                have hzz : x6.heap.size ≤ z3.heap.size := Nat.le_trans hony.size onw.size
                refine step_app (P := Try.prog) rfl (.tmp 33) (.tmp 43) (by rfl) InsetE.enc insTD _ _ [⟨a1, c2, a3⟩] il (.slice IA il.length IC) (by rfl) (by rfl) (m := 1) (n := il.length + 1) rfl rfl (hov.later _) (blk_slAt InsetE.enc (fr := (0, 0)) (e := 58) (heap_alloc_new _ _) [⟨a1, c2, a3⟩] rfl) (by have := hil1.out; omega) (by have := hil1.out; unfold maxLen; omega) (by simp <;> omega) ?_
                intro A9 c9 z9 ho9 hm9 hb9 hg9
                have on9 : Only (fun k => (Value.slice IA il.length IC).ownBlock = some k) z3 z9 := (Only.of_below (w' := z3.alloc _) ((Below.refl _ _).alloc (Nat.le_refl _) _)).trans (Only.of_grown hg9)
                have k9 := on9.boxed k3 (fun e => hno2 _ e rfl)
                have R9 := P3.only on9 (fun k hk => ⟨by have := (World.ownsRow.lt hoi _ hk).1; have := Q6.gw; have := Q6.lt; omega, hno _ hk⟩)
                have BK9 := boxed k9
                refine hK9.out _ _ (by trivial) (fun hHeld => ?_)
                clear hK9 K9
                (try simp only [Act.put])
                refine wpAnyH_take (i := 13) (oi := _) (v := ?_) rfl (by kernel_rfl) (by kernel_rfl) (by kernel_rfl) (fun _ _ _ h => h) (Or.inl ⟨by rfl, ?_⟩) (by assumption) ?_
                rotate_left 1
                · (intro wy hSw; (try dsimp only at hSw); go_simp; try with_reducible rfl)
                (try simp only [Act.put])
                refine wpAnyH_ready (rs := [14]) (by kernel_rfl) (by simp) ?_
                refine AllReadyH.cons (o := _) rfl (fun K9 hK9 => ?_) AllReadyH.nil
                go_simp
                refine hK9.out _ _ (by trivial) (fun hHeld => ?_)
                clear hK9 K9
                (try simp only [Act.put])
                refine wpAnyH_done (by kernel_rfl) ?_ _
                go_wp2_with fail
                have on8 : Only (fun k => k = g ∨ k = x4.heap.size ∨ (Value.slice IA il.length IC).ownBlock = some k) wr (z9.setCell ⟨x4.heap.size, 4, none⟩ (.slice A9 (il.length + 1) c9)) :=
                  Only.setCell (((Only.of_below (w' := wr.drew) ((Below.refl _ _).drew)).trans (onw.mono fun k _ h => .inl h)).trans (on9.mono fun k _ h => .inr (.inr h))) (.inl (.inr (.inl rfl))) _
                have hwbg := Q6.gw
                go_roundw
                case rel =>
                  refine ⟨m + 1, rawI ++ [⟨c1, c2, c3⟩], d3, il ++ [⟨a1, c2, a3⟩], A9, c9, by omega, by go_num, hide (by unfold repR; rw [hri.out]; simp only [HRi.out]), hide (by rw [hil.out, List.map_append, Ha1.out, Ha3.out]; rfl), hide (by rw [List.length_append, hilm.out]; rfl), ?_, ?_, ?_, ?_⟩
                  · exact R9.only (Only.setCell (s := fun k => k = x4.heap.size) Only.refl (.inl rfl) _) (fun k hk => ⟨by omega, by omega⟩)
                  · rw [List.length_append]
                    exact ho9.far (p := ⟨x4.heap.size, 4, none⟩) (fun e => absurd (World.ownsRow.lt ho9 _ e).1 (by show ¬ x6.heap.size ≤ x4.heap.size; omega)) _
                  · rw [List.length_append]
                    exact (blk_set k9 4 _).trans (by simp)
                  · exact hony.trans' on8 (fun k hk h => by
                      rcases h with h | h | h
                      · exact .inl h
                      · exact .inr h
                      · have := (World.ownsRow.lt hoi _ h).1; omega)
                case measure => simp [intOf]; omega
              · go_simp
                refine (HV3 _ P2).mono ?_
                intro r z3 hh
                obtain ⟨rfl, P3, p3⟩ := hh
                have k3 := p3.boxed k2 hne
                have BK3 := boxed k3
                (try dsimp only)
                refine hK9.out _ _ (by trivial) (fun hHeld => ?_)
                clear hK9 K9
                (try simp only [Act.put])
                refine wpAnyH_take (i := 9) (oi := _) (v := ?_) rfl (by kernel_rfl) (by kernel_rfl) (by kernel_rfl) (fun _ _ _ h => h) (Or.inl ⟨by rfl, ?_⟩) (by assumption) ?_
                rotate_left 1
                · (intro wy hSw; (try dsimp only at hSw); go_simp; try with_reducible rfl)
                (try simp only [Act.put])
                refine wpAnyH_take (i := 10) (oi := _) (v := ?_) rfl (by kernel_rfl) (by kernel_rfl) (by kernel_rfl) (fun _ _ _ h => h) (Or.inl ⟨by rfl, ?_⟩) (by assumption) ?_
                rotate_left 1
                · (intro wy hSw; (try dsimp only at hSw); go_simp; try with_reducible rfl)
                (try simp only [Act.put])
                refine wpAnyH_ready (rs := [1, 11]) (by kernel_rfl) (by simp) ?_
                refine AllReadyH.cons (o := _) rfl (fun K9 hK9 => ?_) (AllReadyH.cons (o := _) rfl (fun K9 hK9 => ?_) AllReadyH.nil)
                · go_simp
                  refine hK9.out _ _ (by trivial) (fun hHeld => ?_)
                  clear hK9 K9
                  (try simp only [Act.put])
                  refine wpAnyH_ready (rs := [11]) (by kernel_rfl) (by simp) ?_
                  refine AllReadyH.cons (o := _) rfl (fun K9 hK9 => ?_) AllReadyH.nil
                  go_simp
                  refine hK9.out _ _ (by trivial) (fun hHeld => ?_)
                  clear hK9 K9
                  (try simp only [Act.put])
                  refine wpAnyH_ready (rs := [12]) (by kernel_rfl) (by simp) ?_
                  refine AllReadyH.cons (o := _) rfl (fun K9 hK9 => ?_) AllReadyH.nil
                  have onw : Only (fun k => k = g) wr.drew z3 := (p1.trans p2).trans p3
                  have hov := onw.own (hoi.later _) hno
                  have hzz : x6.heap.size ≤ z3.heap.size := Nat.le_trans hony.size onw.size
                  refine step_app (P := Try.prog) rfl (.tmp 33) (.tmp 43) (by rfl) InsetE.enc insTD _ _ [⟨a1, c2, a3⟩] il (.slice IA il.length IC) (by rfl) (by rfl) (m := 1) (n := il.length + 1) rfl rfl (hov.later _) (blk_slAt InsetE.enc (fr := (0, 0)) (e := 58) (heap_alloc_new _ _) [⟨a1, c2, a3⟩] rfl) (by have := hil1.out; omega) (by have := hil1.out; unfold maxLen; omega) (by simp <;> omega) ?_
                  intro A9 c9 z9 ho9 hm9 hb9 hg9
                  have on9 : Only (fun k => (Value.slice IA il.length IC).ownBlock = some k) z3 z9 := (Only.of_below (w' := z3.alloc _) ((Below.refl _ _).alloc (Nat.le_refl _) _)).trans (Only.of_grown hg9)
                  have k9 := on9.boxed k3 (fun e => hno2 _ e rfl)
                  have R9 := P3.only on9 (fun k hk => ⟨by have := (World.ownsRow.lt hoi _ hk).1; have := Q6.gw; have := Q6.lt; omega, hno _ hk⟩)
                  have BK9 := boxed k9
                  refine hK9.out _ _ (by trivial) (fun hHeld => ?_)
                  clear hK9 K9
                  (try simp only [Act.put])
                  refine wpAnyH_take (i := 13) (oi := _) (v := ?_) rfl (by kernel_rfl) (by kernel_rfl) (by kernel_rfl) (fun _ _ _ h => h) (Or.inl ⟨by rfl, ?_⟩) (by assumption) ?_
                  rotate_left 1
                  · (intro wy hSw; (try dsimp only at hSw); go_simp; try with_reducible rfl)
                  (try simp only [Act.put])
                  refine wpAnyH_ready (rs := [14]) (by kernel_rfl) (by simp) ?_
                  refine AllReadyH.cons (o := _) rfl (fun K9 hK9 => ?_) AllReadyH.nil
                  go_simp
                  refine hK9.out _ _ (by trivial) (fun hHeld => ?_)
                  clear hK9 K9
                  (try simp only [Act.put])
                  refine wpAnyH_done (by kernel_rfl) ?_ _
                  go_wp2_with fail
                  have on8 : Only (fun k => k = g ∨ k = x4.heap.size ∨ (Value.slice IA il.length IC).ownBlock = some k) wr (z9.setCell ⟨x4.heap.size, 4, none⟩ (.slice A9 (il.length + 1) c9)) :=
                    Only.setCell (((Only.of_below (w' := wr.drew) ((Below.refl _ _).drew)).trans (onw.mono fun k _ h => .inl h)).trans (on9.mono fun k _ h => .inr (.inr h))) (.inl (.inr (.inl rfl))) _
                  have hwbg := Q6.gw
                  go_roundw
                  case rel =>
                    refine ⟨m + 1, rawI ++ [⟨c1, c2, c3⟩], d3, il ++ [⟨a1, c2, a3⟩], A9, c9, by omega, by go_num, hide (by unfold repR; rw [hri.out]; simp only [HRi.out]), hide (by rw [hil.out, List.map_append, Ha1.out, Ha3.out]; rfl), hide (by rw [List.length_append, hilm.out]; rfl), ?_, ?_, ?_, ?_⟩
                    · exact R9.only (Only.setCell (s := fun k => k = x4.heap.size) Only.refl (.inl rfl) _) (fun k hk => ⟨by omega, by omega⟩)
                    · rw [List.length_append]
                      exact ho9.far (p := ⟨x4.heap.size, 4, none⟩) (fun e => absurd (World.ownsRow.lt ho9 _ e).1 (by show ¬ x6.heap.size ≤ x4.heap.size; omega)) _
                    · rw [List.length_append]
                      exact (blk_set k9 4 _).trans (by simp)
                    · exact hony.trans' on8 (fun k hk h => by
                        rcases h with h | h | h
                        · exact .inl h
                        · exact .inr h
                        · have := (World.ownsRow.lt hoi _ h).1; omega)
                  case measure => simp [intOf]; omega
                · go_simp
                  refine hK9.out _ _ (by trivial) (fun hHeld => ?_)
                  clear hK9 K9
                  (try simp only [Act.put])
                  refine wpAnyH_ready (rs := [1]) (by kernel_rfl) (by simp) ?_
                  refine AllReadyH.cons (o := _) rfl (fun K9 hK9 => ?_) AllReadyH.nil
                  go_simp
                  refine hK9.out _ _ (by trivial) (fun hHeld => ?_)
                  clear hK9 K9
                  (try simp only [Act.put])
                  refine wpAnyH_ready (rs := [12]) (by kernel_rfl) (by simp) ?_
                  refine AllReadyH.cons (o := _) rfl (fun K9 hK9 => ?_) AllReadyH.nil
                  have onw : Only (fun k => k = g) wr.drew z3 := (p1.trans p2).trans p3
                  have hov := onw.own (hoi.later _) hno
                  have hzz : x6.heap.size ≤ z3.heap.size := Nat.le_trans hony.size onw.size
                  refine step_app (P := Try.prog) rfl (.tmp 33) (.tmp 43) (by rfl) InsetE.enc insTD _ _ [⟨a1, c2, a3⟩] il (.slice IA il.length IC) (by rfl) (by rfl) (m := 1) (n := il.length + 1) rfl rfl (hov.later _) (blk_slAt InsetE.enc (fr := (0, 0)) (e := 58) (heap_alloc_new _ _) [⟨a1, c2, a3⟩] rfl) (by have := hil1.out; omega) (by have := hil1.out; unfold maxLen; omega) (by simp <;> omega) ?_
                  intro A9 c9 z9 ho9 hm9 hb9 hg9
                  have on9 : Only (fun k => (Value.slice IA il.length IC).ownBlock = some k) z3 z9 := (Only.of_below (w' := z3.alloc _) ((Below.refl _ _).alloc (Nat.le_refl _) _)).trans (Only.of_grown hg9)
                  have k9 := on9.boxed k3 (fun e => hno2 _ e rfl)
                  have R9 := P3.only on9 (fun k hk => ⟨by have := (World.ownsRow.lt hoi _ hk).1; have := Q6.gw; have := Q6.lt; omega, hno _ hk⟩)
                  have BK9 := boxed k9
                  refine hK9.out _ _ (by trivial) (fun hHeld => ?_)
                  clear hK9 K9
                  (try simp only [Act.put])
                  refine wpAnyH_take (i := 13) (oi := _) (v := ?_) rfl (by kernel_rfl) (by kernel_rfl) (by kernel_rfl) (fun _ _ _ h => h) (Or.inl ⟨by rfl, ?_⟩) (by assumption) ?_
                  rotate_left 1
                  · (intro wy hSw; (try dsimp only at hSw); go_simp; try with_reducible rfl)
                  (try simp only [Act.put])
                  refine wpAnyH_ready (rs := [14]) (by kernel_rfl) (by simp) ?_
                  refine AllReadyH.cons (o := _) rfl (fun K9 hK9 => ?_) AllReadyH.nil
                  go_simp
                  refine hK9.out _ _ (by trivial) (fun hHeld => ?_)
                  clear hK9 K9
                  (try simp only [Act.put])
                  refine wpAnyH_done (by kernel_rfl) ?_ _
                  go_wp2_with fail
                  have on8 : Only (fun k => k = g ∨ k = x4.heap.size ∨ (Value.slice IA il.length IC).ownBlock = some k) wr (z9.setCell ⟨x4.heap.size, 4, none⟩ (.slice A9 (il.length + 1) c9)) :=
                    Only.setCell (((Only.of_below (w' := wr.drew) ((Below.refl _ _).drew)).trans (onw.mono fun k _ h => .inl h)).trans (on9.mono fun k _ h => .inr (.inr h))) (.inl (.inr (.inl rfl))) _
                  have hwbg := Q6.gw
                  go_roundw
                  case rel =>
                    refine ⟨m + 1, rawI ++ [⟨c1, c2, c3⟩], d3, il ++ [⟨a1, c2, a3⟩], A9, c9, by omega, by go_num, hide (by unfold repR; rw [hri.out]; simp only [HRi.out]), hide (by rw [hil.out, List.map_append, Ha1.out, Ha3.out]; rfl), hide (by rw [List.length_append, hilm.out]; rfl), ?_, ?_, ?_, ?_⟩
                    · exact R9.only (Only.setCell (s := fun k => k = x4.heap.size) Only.refl (.inl rfl) _) (fun k hk => ⟨by omega, by omega⟩)
                    · rw [List.length_append]
                      exact ho9.far (p := ⟨x4.heap.size, 4, none⟩) (fun e => absurd (World.ownsRow.lt ho9 _ e).1 (by show ¬ x6.heap.size ≤ x4.heap.size; omega)) _
                    · rw [List.length_append]
                      exact (blk_set k9 4 _).trans (by simp)
                    · exact hony.trans' on8 (fun k hk h => by
                        rcases h with h | h | h
                        · exact .inl h
                        · exact .inr h
                        · have := (World.ownsRow.lt hoi _ h).1; omega)
                  case measure => simp [intOf]; omega
        · have hmm : m = n2 := by omega
          subst hmm
          have h5y := hony.boxed h5r6 (by omega)
          have hoqy := hony.own hoq6 (fun j e e2 => by
            have h1 := (World.ownsRow.lt hoq6 _ e).1
            have h2 := Hq1.out j e
            omega)
          have hiqy : InsOwn w5.heap.size wr q := fun y hy => hony.own (hiq6 y hy) (fun j e e2 => by
            have h1 := (World.ownsRow.lt (hiq6 y hy) _ e).1
            have h2 := Hq2.out y hy j e
            omega)
          have hz5 : w5.heap.size ≤ wr.heap.size := by have := hony.size; omega
          have hoi5 := hoi.mono (show w5.heap.size ≤ x6.heap.size by omega)
          have BS := boxed h6y
          have BT := boxed h5y
          have lyy : Later wr wr := Later.refl
          have hqk' := hide (show q.length ≤ 1024 by have := hqk.out; omega)
          have hil1024 := hide (show il.length ≤ 1024 by have := hilm.out; omega)
          go_upto_region 11 with (at_builtin; refine wpList_app1 rfl (.tmp 48) (.tmp 50) rfl SumE.enc sumTD (⟨v1, u2, u3, v4, IA, IC, il⟩ : SumE) rfl rfl rfl hoqy (by rfl) (by have := hqk'.out; omega) (by have := hqk'.out; unfold maxLen; omega) hz5 ?_; intro A9 c9 w9 ho9 hm9 hb9 hg9 hat9; have hk9 := heap_grownOwn hoqy hg9 h5y (by decide); have BK9 := boxed hk9; have l99 : Later w9 w9 := Later.refl)
          have on9 : Only (fun k => (Value.slice QA q.length QC).ownBlock = some k) wr w9 := Only.of_grown hg9
          have R9 := Ry.only on9 (fun j hj => ⟨by have h1 := (World.ownsRow.lt hoqy _ hj).1; have := Q6.gw; omega, by have h1 := (World.ownsRow.lt hoqy _ hj).1; omega⟩)
          have R10 := R9.only (Only.setCell (s := fun k => k = w3.heap.size) (p := ⟨w3.heap.size, 1, none⟩) Only.refl (.inl rfl) (.slice A9 (q.length + 1) c9)) (fun j hj => ⟨by have := Q6.gw; omega, by omega⟩)
          have hx9 := own_grownOwn hoqy hg9 hoi5 (by decide)
          have hi10 : InsOwn w5.heap.size (w9.setCell ⟨w3.heap.size, 1, none⟩ (.slice A9 (q.length + 1) c9)) (q ++ [(⟨v1, u2, u3, v4, IA, IC, il⟩ : SumE)]) := fun y hy => by
            have h1 : Own InsetE.cells 3 58 w5.heap.size w9 (.slice y.A y.inset.length y.c) y.inset := by
              rcases List.mem_append.1 hy with hy | hy
              · exact own_grownOwn hoqy hg9 (hiqy y hy) (by decide)
              · rw [List.mem_singleton] at hy; subst hy; exact hx9
            exact h1.far (p := ⟨w3.heap.size, 1, none⟩) (own_off h1 hk9 (by decide)) _
          have ho10 := ho9.far (p := ⟨w3.heap.size, 1, none⟩) (own_off ho9 hk9 (by decide)) (.slice A9 (q.length + 1) c9)
          have on10 : Only (fun k => k = g ∨ k = x4.heap.size ∨ (Value.slice QA q.length QC).ownBlock = some k ∨ k = w3.heap.size) x6 (w9.setCell ⟨w3.heap.size, 1, none⟩ (.slice A9 (q.length + 1) c9)) :=
            Only.setCell ((hony.mono fun k _ h => h.elim .inl (fun h => .inr (.inl h))).trans (on9.mono fun k _ h => .inr (.inr (.inl h)))) (.inl (.inr (.inr (.inr rfl)))) _
          have on11 := (on6.mono fun k _ h => (.inl h : k = g ∨ k = x4.heap.size ∨ (Value.slice QA q.length QC).ownBlock = some k ∨ k = w3.heap.size)).trans on10
          have hfin := honr.trans' on11 (fun j hj h => by
            rcases h with h | h | h | h
            · exact .inl h
            · omega
            · have := (World.ownsRow.lt hoqy _ h).1; omega
            · exact .inr h)
          have hrwk := hide (show repR rdSu (k + 1) s1 = (raws ++ [⟨u1, u2, u3, u4, rawI⟩], st') by unfold repR; rw [hrw.out]; simp only [HRd.out, hri.out])
          have hqn := hide (show (q ++ [(⟨v1, u2, u3, v4, IA, IC, il⟩ : SumE)]).map SumE.con = (raws ++ [(⟨u1, u2, u3, u4, rawI⟩ : SumC)]).map cvS by
            rw [List.map_append, List.map_append, hq.out, hil.out, Hv1.out, Hv4.out]; rfl)
          have hst10 := hide ((blk_set hk9 1 (.slice A9 (q.length + 1) c9)).trans (by simp : _ = some (Obj.cells #[.int .i64 ep, .slice A9 (q.length + 1) c9] 34 (0, 0))))
          clear on9 on10 on11 R9 hx9 ho9 hg9 hat9 hb9 BK9 hk9 BS BT hony hoqy hiqy hoi hoi5
          go_wp2_with fail
          go_roundw
          case rel => exact ⟨k + 1, raws ++ [⟨u1, u2, u3, u4, rawI⟩], st', q ++ [(⟨v1, u2, u3, v4, IA, IC, il⟩ : SumE)], A9, c9, by omega, by go_num, hrwk, hqn, hide (by rw [List.length_append, hqk.out]; rfl), R10, by rw [List.length_append]; exact ho10, hi10, by rw [List.length_append]; exact hst10.out, hfin⟩
          case measure => simp [intOf]; omega
    · have hkk : k = n := by omega
      subst hkk
      have hE := hide (show rdS (b, 0) = ((n0, raws), st) by rw [hL.out, hrw.out])
      have hbr : Below w.heap.size w wr := hB5.trans (honr.below (fun j e => by rcases e with e | e <;> omega) hB5.size)
      have h2r := honr.boxed h25 (by omega)
      have HD : ∀ W, RD wb g W st → Calls Try.prog 53 #[.pointer (some ⟨g, 0, none⟩)] W fun r w' => r = .returned (.int .i64 (endE st)) ∧ Below W.heap.size W w' := fun W R => done_any wb g st W R
      have B2' := boxed h2r
      have B5' := boxed h5r
      have lrr : Later wr wr := Later.refl
      have hq1 : q.length ≤ 1024 := by have := hqk.out; omega
      have SQ : ∀ u [Later wr u], SumsAt u QA q := fun u i => (hiq.below i.below).sums ((hoq.below i.below).at_ SumE.enc).2.2
      obtain ⟨V, hV⟩ : ∃ V, V = validS ep (q.map SumE.con) := ⟨_, rfl⟩
      have HV : ∀ u [Later wr u], Calls Try.prog 22 #[.agg #[.int .i64 ep, .slice QA q.length QC]] u fun r w' => r = .returned (.bool V) ∧ Below u.heap.size u w' := fun u i => by
        rw [hV]
        exact valid_any ep QA QC q u (SQ u) (by omega) (fun y hy => Nat.le_trans ((SQ wr).c y hy).1 (by have := ((SQ wr).c y hy).2; unfold maxLen at this; omega))
      have hVd := hide (show V = validS (i64 n0) (raws.map cvS) by rw [hV, hq.out, Hep.out])
      clear hV
      obtain ⟨ee, hee⟩ : ∃ ee, ee = endE st := ⟨_, rfl⟩
      rw [← hee] at HD
      have Hee := hide hee
      clear hee
      by_cases he : ee = 0
      · subst he
        cases V
        · have hd := hide (show decS b = (0, [], 11) by unfold decS; rw [hE.out]; dsimp only; rw [← hVd.out, if_neg (fun h => by cases h.2)])
          go_wp2_with (first
            | (go_at_call 53; refine (HD _ Rr).mono ?_; rintro r z1 ⟨rfl, hz⟩; have lz1 := later hz)
            | (go_at_call 22; refine (HV _).mono ?_; rintro r z2 ⟨rfl, hz2⟩; have lz2 := later hz2))
          have lrz : Later wr z2 := ⟨below_of⟩
          have hbz : Below w.heap.size w z2 := hbr.trans (lrz.below.mono hbr.size)
          have hW := (blk_set (blk_set (B2' z2).1 0 (.int .i64 0)) 1 (.slice none 0 0)).trans (by simp : _ = some (Obj.cells #[.int .i64 0, .slice none 0 0] 34 (0, 0)))
          have r0 := blk_cell hW 0
          have r1 := blk_cell hW 1
          simp at r0 r1
          refine bodyPost_ret (v := .tuple #[.agg #[.int .i64 0, .slice none 0 0], .int .i64 11]) (by simp [results, Try.results27, go_sem, r0, r1]) rfl ?_
          exact ⟨0, [], none, 0, 11, hide (by rw [hd.out]; rfl), rfl, ⟨SlAt.nil, (fun y hy => by cases hy), (fun y hy => by cases hy)⟩, (hbz.setCell (p := ⟨w.heap.size, 0, none⟩) (Nat.le_refl _) _).setCell (p := ⟨w.heap.size, 1, none⟩) (Nat.le_refl _) _⟩
        · have hd := hide (show decS b = (ep, raws.map cvS, 0) by unfold decS; rw [hE.out]; dsimp only; rw [← hVd.out, if_pos ⟨Hee.out.symm, rfl⟩, Hep.out])
          go_wp2_with (first
            | (go_at_call 53; refine (HD _ Rr).mono ?_; rintro r z1 ⟨rfl, hz⟩; have lz1 := later hz)
            | (go_at_call 22; refine (HV _).mono ?_; rintro r z2 ⟨rfl, hz2⟩; have lz2 := later hz2))
          have lrz : Later wr z2 := ⟨below_of⟩
          have hbz : Below w.heap.size w z2 := hbr.trans (lrz.below.mono hbr.size)
          have hW := (blk_set (blk_set (B2' z2).1 0 (.int .i64 ep)) 1 (.slice QA q.length QC)).trans (by simp : _ = some (Obj.cells #[.int .i64 ep, .slice QA q.length QC] 34 (0, 0)))
          have r0 := blk_cell hW 0
          have r1 := blk_cell hW 1
          simp at r0 r1
          have hzz : w.heap.size < w5.heap.size := by omega
          have hoz := ((hoq.below lrz.below).set (p := ⟨w.heap.size, 0, none⟩) hzz (.int .i64 ep)).set (p := ⟨w.heap.size, 1, none⟩) hzz (.slice QA q.length QC)
          have hiz : InsOwn w5.heap.size ((z2.setCell ⟨w.heap.size, 0, none⟩ (.int .i64 ep)).setCell ⟨w.heap.size, 1, none⟩ (.slice QA q.length QC)) q := fun y hy => (((hiq y hy).below lrz.below).set (p := ⟨w.heap.size, 0, none⟩) hzz _).set (p := ⟨w.heap.size, 1, none⟩) hzz _
          refine bodyPost_ret (v := .tuple #[.agg #[.int .i64 ep, .slice QA q.length QC], .int .i64 0]) (by simp [results, Try.results27, go_sem, r0, r1]) rfl ?_
          exact ⟨ep, q, QA, QC, 0, hide (by rw [hd.out, hq.out]), rfl, hiz.sums (hoz.at_ SumE.enc).2.2, (hbz.setCell (p := ⟨w.heap.size, 0, none⟩) (Nat.le_refl _) _).setCell (p := ⟨w.heap.size, 1, none⟩) (Nat.le_refl _) _⟩
      · have he' : (ee != 0) = true := by simpa using he
        have hd := hide (show decS b = (0, [], 11) by unfold decS; rw [hE.out]; dsimp only; rw [if_neg (fun h => he (Hee.out.trans h.1))])
        go_wp2_with (go_at_call 53; refine (HD _ Rr).mono ?_; rintro r z1 ⟨rfl, hz⟩; have lz1 := later hz)
        have lrz : Later wr z1 := ⟨below_of⟩
        have hbz : Below w.heap.size w z1 := hbr.trans (lrz.below.mono hbr.size)
        have hW := (blk_set (blk_set (B2' z1).1 0 (.int .i64 0)) 1 (.slice none 0 0)).trans (by simp : _ = some (Obj.cells #[.int .i64 0, .slice none 0 0] 34 (0, 0)))
        have r0 := blk_cell hW 0
        have r1 := blk_cell hW 1
        simp at r0 r1
        refine bodyPost_ret (v := .tuple #[.agg #[.int .i64 0, .slice none 0 0], .int .i64 11]) (by simp [results, Try.results27, go_sem, r0, r1]) rfl ?_
        exact ⟨0, [], none, 0, 11, hide (by rw [hd.out]; rfl), rfl, ⟨SlAt.nil, (fun y hy => by cases hy), (fun y hy => by cases hy)⟩, (hbz.setCell (p := ⟨w.heap.size, 0, none⟩) (Nat.le_refl _) _).setCell (p := ⟨w.heap.size, 1, none⟩) (Nat.le_refl _) _⟩
end Go.Proofs.Ytomgdkfoinojiaa

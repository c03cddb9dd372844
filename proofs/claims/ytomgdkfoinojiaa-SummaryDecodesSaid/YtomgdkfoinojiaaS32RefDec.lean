/-
  Contracts of the functions of this seat that each theorem names: what a call returns, and that it writes nothing that was there before. The conditions stand in each theorem.
-/
import Derived.Test.YtomgdkfoinojiaaS32Dec
import Derived.Test.YtomgdkfoinojiaaGrpM
import Derived.Test.YtomgdkfoinojiaaS32RefEnc
import Derived.Test.YtomgdkfoinojiaaGrpN
import Derived.Test.YtomgdkfoinojiaaGrpO
set_option linter.unusedSimpArgs false
set_option linter.unusedVariables false
namespace Go.Proofs.Ytomgdkfoinojiaa
open Go.RowKit
theorem rdU_stuck {st : St} (h : st.2 ≠ 0) : rdU st = (0, st) := by unfold rdU; rw [if_neg h]
theorem rdB_stuck {st : St} (h : st.2 ≠ 0) : rdB st = (false, st) := by unfold rdB; rw [if_neg h]
theorem rdC_stuck {st : St} {m : Int} (h : st.2 ≠ 0) : rdC m st = (0, st) := by unfold rdC; rw [rdU_stuck h, if_neg h]
theorem rdIn_stuck {st : St} (h : st.2 ≠ 0) : (rdIn st).2 = st := by
  unfold rdIn andR
  simp only [rdU_stuck h]
theorem rdSu_stuck {st : St} (h : st.2 ≠ 0) : (rdSu st).2 = st := by
  unfold rdSu andR cntR
  simp only [rdU_stuck h, rdB_stuck h, rdC_stuck h]
  rfl
theorem repR_stuck {α : Type} {p : St → α × St} (hp : ∀ st : St, st.2 ≠ 0 → (p st).2 = st) {s : St} : ∀ (j k : Nat), (repR p k s).2.2 ≠ 0 → (repR p (k + j) s).2 = (repR p k s).2
  | 0, _, _ => rfl
  | j + 1, k, h => by
    have ih := repR_stuck hp j k h
    show (p (repR p (k + j) s).2).2 = _
    rw [ih]
    exact hp _ h
set_option maxRecDepth 100000 in
set_option maxHeartbeats 16000000 in
theorem refDecode_any (bA : Option Addr) (bC : Nat) (b : List Int) (w : World) (hs : SlAt U8.cells 1 w bA b) (hl : b.length ≤ 1000000000) (hb : Bytes b) :
    Calls Try.prog 28 #[.slice bA b.length bC] w (SDecPost b w) := by
  have hCb : ∀ u [Later w u], (convert 71 9 (.slice bA b.length bC)).run Try.prog u = .ok (.string (strB b)) u := fun u i => conv_bytes bA bC b u (hs.below i.below)
  go_enter Try.func28, Try.ntmps28
  go_upto_region 1 with fail
  refine wp_name ?_
  intro w1 hw1
  obtain ⟨B2, l1⟩ := box1 hw1
  clear hw1
  have hbel1 : Below w.heap.size w w1 := (l1 w).below
  have h2 := (B2 w1).1
  go_upto_region 2 with (at_builtin; refine wpList_appE rfl (.tmp 12) (.tmp 13) rfl U8.enc byteT _ _ b rfl rfl (hs.below hbel1) (by omega) (by unfold maxLen; omega) ?_; intro A0 c0 wb ho0 hm0 hb0; have l0 := later hb0)
  refine wp_name ?_
  intro w2 hw2
  have l02 : Later wb wb := Later.refl
  obtain ⟨BR, l2⟩ := box1 hw2
  clear hw2
  obtain ⟨g, hg⟩ : ∃ g, g = wb.heap.size := ⟨_, rfl⟩
  rw [← hg] at BR ⊢
  have h22 := blk_below h2 (hb0.trans ((l2 wb).below.mono hb0.size))
  have R2 : RR wb g w2 (b, 0) := ⟨(l2 wb).below, by omega, ⟨A0, c0, (ho0.at_ U8.enc).2.2, (ho0.at_ U8.enc).2.1, hm0, (BR w2).1⟩, hb⟩
  have hB2 : Below w.heap.size w w2 := hbel1.trans ((hb0.trans ((l2 wb).below.mono hb0.size)).mono hbel1.size)
  have hg1 : w1.heap.size ≤ g := by rw [hg]; exact hb0.size
  have hwg : w.heap.size < w1.heap.size := boxed_lt B2
  clear BR hg ho0 hm0
  obtain ⟨n0, s0, hU0⟩ : ∃ n s, rdU (b, 0) = (n, s) := ⟨_, _, rfl⟩
  have HU0 := ruint_any wb g (b, 0) w2 R2
  have hr0 := rdU_range (st := (b, 0)) hb
  rw [hU0] at HU0 hr0
  dsimp only at HU0 hr0
  have hw0 := wrap_i64_eq hr0.1 hr0.2
  obtain ⟨ep, hep⟩ : ∃ ep, ep = i64 n0 := ⟨_, rfl⟩
  rw [← hep] at hw0
  have Hep := hide hep
  clear hep
  go_upto_region 3 with (go_at_call 54; refine HU0.mono ?_; intro r w3 hh3; obtain ⟨rfl, R3, on3⟩ := hh3)
  refine wp_name ?_
  intro w4 hw4
  obtain ⟨B5, l4⟩ := box1 hw4
  clear hw4
  have onw24 : Only (fun k => k = g) w2 w4 := on3.trans (Only.of_below (l4 w3).below)
  have R4 := R3.below (l4 w3).below
  have hg3 := R3.lt
  have h24 := onw24.boxed h22 (by omega)
  have h54 := (B5 w4).1
  have hB4 : Below w.heap.size w w4 := hB2.trans (onw24.below (fun k e => by subst e; omega) (hB2.size))
  obtain ⟨n1, s1, hC0⟩ : ∃ n s, rdC 1024 s0 = (n, s) := ⟨_, _, rfl⟩
  have HC0 := rcount_any wb g 1024 s0 w4 R4 (by decide) (by decide)
  have hrc := rdC_range (m := 1024) (by decide) R4.by_
  rw [hC0] at HC0 hrc
  dsimp only at HC0 hrc
  obtain ⟨n, rfl⟩ : ∃ n : Nat, n1 = (n : Int) := ⟨n1.toNat, by omega⟩
  go_upto_region 4 with (go_at_call 55; refine HC0.mono ?_; intro r w5 hh5; obtain ⟨rfl, R5, on5⟩ := hh5)
  have h25 := on5.boxed h24 (by omega)
  have h55 := on5.boxed h54 (by omega)
  have hB5 : Below w.heap.size w w5 := hB4.trans (on5.below (fun k e => by subst e; omega) hB4.size)
  have hz35 : w3.heap.size < w5.heap.size := blk_lt h55
  have hg5 := R5.lt
  have hL := hide (show (rdS (b, 0)) = ((n0, (repR rdSu n s1).1), (repR rdSu n s1).2) by unfold rdS andR cntR; rw [hU0]; dsimp only; rw [hC0]; dsimp only; rw [Int.toNat_natCast])
  have hn24 : n ≤ 1024 := by omega
  clear hU0 hC0 HU0 HC0 R2 R3 R4 on3 on5 onw24 h22 h24 h54 B5 B2 hb0 h2 hr0 hrc
  go_wp2_with fail
  go_loopw [7] (fun iv wr => ∃ (k : Nat) (raws : List SumC) (st : St) (q : List SumE) (QA : Option Addr) (QC : Nat), k ≤ n ∧ iv = .int .i64 k ∧ Hid (repR rdSu k s1 = (raws, st)) ∧ Hid (st.2 = 0 → q.map SumE.con = raws.map cvS) ∧ Hid (q.length = k) ∧ RR wb g wr st ∧
    Own SumE.cells 5 41 w5.heap.size wr (.slice QA q.length QC) q ∧ InsOwn w5.heap.size wr q ∧ wr.heap[w3.heap.size]? = some (.cells #[.int .i64 ep, .slice QA q.length QC] 34 (0, 0)) ∧ Only (fun k => k = g ∨ k = w3.heap.size) w5 wr) (fun iv _ => n - (intOf iv).toNat)
  case atStart => exact ⟨0, [], s1, [], none, 0, by omega, rfl, hide rfl, hide (fun _ => rfl), hide rfl, R5, Own.nil, (fun x hx => by cases hx), h55, Only.refl⟩
  case round =>
    obtain ⟨k, raws, st, q, QA, QC, hk, rfl, hrw, hq, hqk, Rr, hoq, hiq, h5r, honr⟩ := hrel
    obtain ⟨G1, G2, -, -, -, hGr⟩ := Rr.s
    have BGr := boxed hGr
    have lrr : Later wr wr := Later.refl
    obtain ⟨rl, re⟩ := st
    dsimp only at BGr hGr
    have hq := hide (show re = 0 → q.map SumE.con = raws.map cvS from hq.out)
    by_cases hlt : k < n
    · have hki : (k : Int) < (n : Int) := by omega
      have hkid : decide ((k : Int) < (n : Int)) = true := by simpa using hlt
      by_cases hst : re = 0
      · subst hst
        have hq0 := hide (hq.out rfl)
        obtain ⟨u1, t1, hu1⟩ : ∃ n s, rdU (rl, 0) = (n, s) := ⟨_, _, rfl⟩
        obtain ⟨u2, t2, hu2⟩ : ∃ n s, rdU t1 = (n, s) := ⟨_, _, rfl⟩
        obtain ⟨u3, t3, hu3⟩ : ∃ n s, rdB t2 = (n, s) := ⟨_, _, rfl⟩
        obtain ⟨u4, t4, hu4⟩ : ∃ n s, rdU t3 = (n, s) := ⟨_, _, rfl⟩
        obtain ⟨u5, t5, hu5⟩ : ∃ n s, rdC 1024 t4 = (n, s) := ⟨_, _, rfl⟩
        have y0 := Rr.by_
        have y1 : Bytes t1.1 := by have := rdU_bytes (s := (rl, 0)) y0; rwa [hu1] at this
        have y2 : Bytes t2.1 := by have := rdU_bytes (s := t1) y1; rwa [hu2] at this
        have y3 : Bytes t3.1 := by have := rdB_bytes (s := t2) y2; rwa [hu3] at this
        have y4 : Bytes t4.1 := by have := rdU_bytes (s := t3) y3; rwa [hu4] at this
        have g1 := rdU_range (st := (rl, 0)) y0
        have g2 := rdU_range (st := t1) y1
        have g4 := rdU_range (st := t3) y3
        have g5 := rdC_range (m := 1024) (st := t4) (by decide) y4
        rw [hu1] at g1
        rw [hu2] at g2
        rw [hu4] at g4
        rw [hu5] at g5
        dsimp only at g1 g2 g4 g5
        obtain ⟨n2, rfl⟩ : ∃ n2 : Nat, u5 = (n2 : Int) := ⟨u5.toNat, by omega⟩
        have HU1 : ∀ W, RR wb g W (rl, 0) → Calls Try.prog 54 #[.pointer (some ⟨g, 0, none⟩)] W (RRPost (.int .u64 u1) wb g t1 W) := fun W R => by have := ruint_any wb g (rl, 0) W R; rw [hu1] at this; exact this
        have HU2 : ∀ W, RR wb g W t1 → Calls Try.prog 54 #[.pointer (some ⟨g, 0, none⟩)] W (RRPost (.int .u64 u2) wb g t2 W) := fun W R => by have := ruint_any wb g t1 W R; rw [hu2] at this; exact this
        have HU3 : ∀ W, RR wb g W t2 → Calls Try.prog 56 #[.pointer (some ⟨g, 0, none⟩)] W (RRPost (.bool u3) wb g t3 W) := fun W R => by have := rbool_any wb g t2 W R; rw [hu3] at this; exact this
        have HU4 : ∀ W, RR wb g W t3 → Calls Try.prog 54 #[.pointer (some ⟨g, 0, none⟩)] W (RRPost (.int .u64 u4) wb g t4 W) := fun W R => by have := ruint_any wb g t3 W R; rw [hu4] at this; exact this
        have HU5 : ∀ W, RR wb g W t4 → Calls Try.prog 55 #[.pointer (some ⟨g, 0, none⟩), .int .i64 1024] W (RRPost (.int .i64 (n2 : Int)) wb g t5 W) := fun W R => by have := rcount_any wb g 1024 t4 W R (by decide) (by decide); rw [hu5] at this; exact this
        have HRd := hide (show rdSu (rl, 0) = (⟨u1, u2, u3, u4, (repR rdIn n2 t5).1⟩, (repR rdIn n2 t5).2) by unfold rdSu andR cntR; simp only [hu1, hu2, hu3, hu4, hu5, Int.toNat_natCast])
        have e1 := wrap_i64_eq g1.1 g1.2
        have e4 := wrap_i64_eq g4.1 g4.2
        obtain ⟨v1, hv1⟩ : ∃ v, v = i64 u1 := ⟨_, rfl⟩
        obtain ⟨v4, hv4⟩ : ∃ v, v = i64 u4 := ⟨_, rfl⟩
        rw [← hv1] at e1
        rw [← hv4] at e4
        have Hv1 := hide hv1
        have Hv4 := hide hv4
        have hzr := honr.size
        clear hv1 hv4 hu1 hu2 hu3 hu4 hu5 y0 y1 y2 y3 y4 g1 g2 g4
        go_upto_region 8 with (go_at_call 54; refine (HU1 _ Rr).mono ?_; intro r x1 hh; obtain ⟨rfl, Q1, o1⟩ := hh)
        refine wp_name ?_
        intro x2 hx2
        obtain ⟨B8, l8⟩ := box1 hx2
        clear hx2
        have Q2 := Q1.below (l8 x1).below
        have k2 := (B8 x2).1
        have hgx := Q1.lt
        have hgw := Q1.gw
        have hne : ¬ x1.heap.size = g := by omega
        have ona : Only (fun k => k = g) wr x2 := o1.trans (Only.of_below (l8 x1).below)
        have nn2 : Only (fun k => k = g ∨ k = x1.heap.size) x2 x2 := Only.refl
        have hzx1 := o1.size
        clear B8 HU1 Q1
        go_upto_region 9 with (go_at_call 54; refine (HU2 _ Q2).mono ?_; intro r x3 hh; obtain ⟨rfl, Q3, o3⟩ := hh; have k3 := o3.boxed k2 hne; have BK3 := boxed k3)
        refine wp_name ?_
        intro x4 hx4
        have k4 : x4.heap[x1.heap.size]? = some (.cells #[.int .i64 v1, .int .u64 u2, .bool false, .int .i64 0, .slice none 0 0] 41 (0, 0)) := by rw [← hx4]; exact (blk_set k3 1 _).trans (by simp)
        have o4 : Only (fun k => k = x1.heap.size) x3 x4 := by rw [← hx4]; exact Only.setCell (s := fun k => k = x1.heap.size) Only.refl (.inl rfl) _
        clear hx4
        have Q4 := Q3.only o4 (fun k e => ⟨by omega, by omega⟩)
        have nn4 : Only (fun k => k = g ∨ k = x1.heap.size) x2 x4 := (nn2.trans (o3.mono fun k _ h => .inl h)).trans (o4.mono fun k _ h => .inr h)
        clear BK3 k3 Q3 o3 o4 Q2 k2 nn2 HU2
        go_upto_region 10 with (go_at_call 56; refine (HU3 _ Q4).mono ?_; intro r x5 hh; obtain ⟨rfl, Q5, o5⟩ := hh; have k5 := o5.boxed k4 hne; have BK5 := boxed k5)
        refine wp_name ?_
        intro x6 hx6
        have k6 : x6.heap[x1.heap.size]? = some (.cells #[.int .i64 v1, .int .u64 u2, .bool u3, .int .i64 0, .slice none 0 0] 41 (0, 0)) := by rw [← hx6]; exact (blk_set k5 2 _).trans (by simp)
        have o6 : Only (fun k => k = x1.heap.size) x5 x6 := by rw [← hx6]; exact Only.setCell (s := fun k => k = x1.heap.size) Only.refl (.inl rfl) _
        clear hx6
        have Q6 := Q5.only o6 (fun k e => ⟨by omega, by omega⟩)
        have nn6 : Only (fun k => k = g ∨ k = x1.heap.size) x2 x6 := (nn4.trans (o5.mono fun k _ h => .inl h)).trans (o6.mono fun k _ h => .inr h)
        clear BK5 k5 Q5 o5 o6 Q4 k4 nn4 HU3
        go_upto_region 11 with (go_at_call 54; refine (HU4 _ Q6).mono ?_; intro r x7 hh; obtain ⟨rfl, Q7, o7⟩ := hh; have k7 := o7.boxed k6 hne; have BK7 := boxed k7)
        refine wp_name ?_
        intro x8 hx8
        have k8 : x8.heap[x1.heap.size]? = some (.cells #[.int .i64 v1, .int .u64 u2, .bool u3, .int .i64 v4, .slice none 0 0] 41 (0, 0)) := by rw [← hx8]; exact (blk_set k7 3 _).trans (by simp)
        have o8 : Only (fun k => k = x1.heap.size) x7 x8 := by rw [← hx8]; exact Only.setCell (s := fun k => k = x1.heap.size) Only.refl (.inl rfl) _
        clear hx8
        have Q8 := Q7.only o8 (fun k e => ⟨by omega, by omega⟩)
        have nn8 : Only (fun k => k = g ∨ k = x1.heap.size) x2 x8 := (nn6.trans (o7.mono fun k _ h => .inl h)).trans (o8.mono fun k _ h => .inr h)
        clear BK7 k7 Q7 o7 o8 Q6 k6 nn6 HU4
        go_upto_region 12 with (go_at_call 55; refine (HU5 _ Q8).mono ?_; intro r x9 hh; obtain ⟨rfl, Q9, o9⟩ := hh)
        have k9 := o9.boxed k8 hne
        have n9 : Only (fun k => k = g ∨ k = x1.heap.size) x2 x9 := nn8.trans (o9.mono fun k _ h => .inl h)
        have on6 : Only (fun k => k = g) wr x9 := ona.trans' n9 (fun k hk h => by rcases h with h | h; exact h; omega)
        have h5r6 := on6.boxed h5r (by omega)
        have hoq6 := on6.own hoq (fun j e e2 => by have := (World.ownsRow.lt hoq _ e).1; omega)
        have hiq6 : InsOwn w5.heap.size x9 q := fun y hy => on6.own (hiq y hy) (fun j e e2 => by have := (World.ownsRow.lt (hiq y hy) _ e).1; omega)
        have hz6 : wr.heap.size ≤ x9.heap.size := on6.size
        have hz19 : x1.heap.size < x9.heap.size := blk_lt k9
        have Hq1 := hide (show ∀ j, (Value.slice QA q.length QC).ownBlock = some j → j < wr.heap.size from fun j e => (World.ownsRow.lt hoq _ e).2)
        have Hq2 := hide (show ∀ y ∈ q, ∀ j, (Value.slice y.A y.inset.length y.c).ownBlock = some j → j < wr.heap.size from fun y hy j e => (World.ownsRow.lt (hiq y hy) _ e).2)
        clear HU5 Q8 k8 nn8 n9 o9 hoq hiq h5r Rr BGr hGr ona o1
        have hn64 : n2 ≤ 1024 := by omega
        go_wp2_with fail
        go_loopw [10] (fun iv wr => ∃ (m : Nat) (rawI : List InsetE) (st' : St) (il : List InsetE) (IA : Option Addr) (IC : Nat), m ≤ n2 ∧ iv = .int .i64 m ∧ Hid (repR rdIn m t5 = (rawI, st')) ∧ Hid (il = rawI.map cvI) ∧ Hid (il.length = m) ∧ RR wb g wr st' ∧
          Own InsetE.cells 3 58 x9.heap.size wr (.slice IA il.length IC) il ∧ wr.heap[x1.heap.size]? = some (.cells #[.int .i64 v1, .int .u64 u2, .bool u3, .int .i64 v4, .slice IA il.length IC] 41 (0, 0)) ∧ Only (fun k => k = g ∨ k = x1.heap.size) x9 wr) (fun iv _ => n2 - (intOf iv).toNat)
        case atStart => exact ⟨0, [], t5, [], none, 0, by omega, rfl, hide rfl, hide rfl, hide rfl, Q9, Own.nil, k9, Only.refl⟩
        case round =>
          obtain ⟨m, rawI, st', il, IA, IC, hm, rfl, hri, hil, hilm, Ry, hoi, h6y, hony⟩ := hrel
          obtain ⟨G3, G4, -, -, -, hGy⟩ := Ry.s
          have BGy := boxed hGy
          have lyy : Later wr wr := Later.refl
          obtain ⟨yl, ye⟩ := st'
          dsimp only at BGy hGy
          by_cases hml : m < n2
          · have hmid : decide ((m : Int) < (n2 : Int)) = true := by simpa using hml
            by_cases hye : ye = 0
            · subst hye
              obtain ⟨c1, d1, hc1⟩ : ∃ n s, rdU (yl, 0) = (n, s) := ⟨_, _, rfl⟩
              obtain ⟨c2, d2, hc2⟩ : ∃ n s, rdU d1 = (n, s) := ⟨_, _, rfl⟩
              obtain ⟨c3, d3, hc3⟩ : ∃ n s, rdU d2 = (n, s) := ⟨_, _, rfl⟩
              have y0 := Ry.by_
              have y1 : Bytes d1.1 := by have := rdU_bytes (s := (yl, 0)) y0; rwa [hc1] at this
              have y2 : Bytes d2.1 := by have := rdU_bytes (s := d1) y1; rwa [hc2] at this
              have g1 := rdU_range (st := (yl, 0)) y0
              have g3 := rdU_range (st := d2) y2
              rw [hc1] at g1
              rw [hc3] at g3
              dsimp only at g1 g3
              have HV1 : ∀ W, RR wb g W (yl, 0) → Calls Try.prog 54 #[.pointer (some ⟨g, 0, none⟩)] W (RRPost (.int .u64 c1) wb g d1 W) := fun W R => by have := ruint_any wb g (yl, 0) W R; rw [hc1] at this; exact this
              have HV2 : ∀ W, RR wb g W d1 → Calls Try.prog 54 #[.pointer (some ⟨g, 0, none⟩)] W (RRPost (.int .u64 c2) wb g d2 W) := fun W R => by have := ruint_any wb g d1 W R; rw [hc2] at this; exact this
              have HV3 : ∀ W, RR wb g W d2 → Calls Try.prog 54 #[.pointer (some ⟨g, 0, none⟩)] W (RRPost (.int .u64 c3) wb g d3 W) := fun W R => by have := ruint_any wb g d2 W R; rw [hc3] at this; exact this
              have HRi := hide (show rdIn (yl, 0) = (⟨c1, c2, c3⟩, d3) by unfold rdIn andR; simp only [hc1, hc2, hc3])
              have f1 := wrap_i64_eq g1.1 g1.2
              have f3 := wrap_i64_eq g3.1 g3.2
              obtain ⟨a1, ha1⟩ : ∃ v, v = i64 c1 := ⟨_, rfl⟩
              obtain ⟨a3, ha3⟩ : ∃ v, v = i64 c3 := ⟨_, rfl⟩
              rw [← ha1] at f1
              rw [← ha3] at f3
              have Ha1 := hide ha1
              have Ha3 := hide ha3
              have hil1 := hide (show il.length ≤ 1024 by have := hilm.out; omega)
              have hno : ∀ j, (Value.slice IA il.length IC).ownBlock = some j → ¬ j = g := fun j e e2 => by have := (World.ownsRow.lt hoi _ e).1; omega
              have hzy := hony.size
              clear ha1 ha3 hc1 hc2 hc3 y0 y1 y2 g1 g3
              go_upto_region 16 with (go_at_call 54; refine (HV1 _ Ry).mono ?_; intro r y1 hh; obtain ⟨rfl, P1, p1⟩ := hh)
              refine wp_name ?_
              intro y2 hy2
              obtain ⟨BY, ly2⟩ := box1 hy2
              clear hy2
              have P2 := P1.below (ly2 y1).below
              have j2 := (BY y2).1
              have hgy := P1.lt
              have hny : ¬ y1.heap.size = g := by omega
              have pna : Only (fun k => k = g) wr y2 := p1.trans (Only.of_below (ly2 y1).below)
              have m2 : Only (fun k => k = g ∨ k = y1.heap.size) y2 y2 := Only.refl
              have hzy1 := p1.size
              clear BY HV1 P1
              go_upto_region 17 with (go_at_call 54; refine (HV2 _ P2).mono ?_; intro r y3 hh; obtain ⟨rfl, P3, p3⟩ := hh; have j3 := p3.boxed j2 hny; have BJ3 := boxed j3)
              refine wp_name ?_
              intro y4 hy4
              have j4 : y4.heap[y1.heap.size]? = some (.cells #[.int .i64 a1, .int .u64 c2, .int .i64 0] 58 (0, 0)) := by rw [← hy4]; exact (blk_set j3 1 _).trans (by simp)
              have p4 : Only (fun k => k = y1.heap.size) y3 y4 := by rw [← hy4]; exact Only.setCell (s := fun k => k = y1.heap.size) Only.refl (.inl rfl) _
              clear hy4
              have P4 := P3.only p4 (fun k e => ⟨by omega, by omega⟩)
              have m4 : Only (fun k => k = g ∨ k = y1.heap.size) y2 y4 := (m2.trans (p3.mono fun k _ h => .inl h)).trans (p4.mono fun k _ h => .inr h)
              clear BJ3 j3 P3 p3 p4 P2 j2 m2 HV2
              go_upto_region 18 with (go_at_call 54; refine (HV3 _ P4).mono ?_; intro r y5 hh; obtain ⟨rfl, P5, p5⟩ := hh; have j5 := p5.boxed j4 hny; have BJ5 := boxed j5)
              refine wp_name ?_
              intro y6 hy6
              have j6 : y6.heap[y1.heap.size]? = some (.cells #[.int .i64 a1, .int .u64 c2, .int .i64 a3] 58 (0, 0)) := by rw [← hy6]; exact (blk_set j5 2 _).trans (by simp)
              have p6 : Only (fun k => k = y1.heap.size) y5 y6 := by rw [← hy6]; exact Only.setCell (s := fun k => k = y1.heap.size) Only.refl (.inl rfl) _
              clear hy6
              have P6 := P5.only p6 (fun k e => ⟨by omega, by omega⟩)
              have m6 : Only (fun k => k = g ∨ k = y1.heap.size) y2 y6 := (m4.trans (p5.mono fun k _ h => .inl h)).trans (p6.mono fun k _ h => .inr h)
              clear BJ5 j5 P5 p5 p6 P4 j4 m4 HV3
              have ony : Only (fun k => k = g) wr y6 := pna.trans' m6 (fun k hk h => by rcases h with h | h; exact h; omega)
              have hx6 := ony.boxed h6y (by omega)
              have hoi6 := ony.own hoi hno
              have BX6 := boxed hx6
              have BJ6 := boxed j6
              have hzx6 : x9.heap.size ≤ y6.heap.size := Nat.le_trans hzy ony.size
              have ly6 : Later y6 y6 := Later.refl
              go_upto_region 14 with (at_builtin; refine wpList_app1 rfl (.tmp 75) (.tmp 77) rfl InsetE.enc insTD (⟨a1, c2, a3⟩ : InsetE) rfl rfl rfl hoi6 (by rfl) (by have := hil1.out; omega) (by have := hil1.out; unfold maxLen; omega) hzx6 ?_; intro A9 c9 z9 ho9 hm9 hb9 hg9 hat9; have hk9 := heap_grownOwn hoi6 hg9 hx6 (by decide); have BK9 := boxed hk9; have l99 : Later z9 z9 := Later.refl)
              have on9 : Only (fun k => (Value.slice IA il.length IC).ownBlock = some k) y6 z9 := Only.of_grown hg9
              have R9 := P6.only on9 (fun j hj => ⟨by have h1 := (World.ownsRow.lt hoi6 _ hj).1; have := P6.gw; omega, hno _ hj⟩)
              have R10 := R9.only (Only.setCell (s := fun k => k = x1.heap.size) (p := ⟨x1.heap.size, 4, none⟩) Only.refl (.inl rfl) (.slice A9 (il.length + 1) c9)) (fun j hj => ⟨by have := P6.gw; omega, by omega⟩)
              have ho10 := ho9.far (p := ⟨x1.heap.size, 4, none⟩) (own_off ho9 hk9 (by decide)) (.slice A9 (il.length + 1) c9)
              have on10 : Only (fun k => k = g ∨ k = x1.heap.size ∨ (Value.slice IA il.length IC).ownBlock = some k) wr (z9.setCell ⟨x1.heap.size, 4, none⟩ (.slice A9 (il.length + 1) c9)) :=
                Only.setCell ((ony.mono fun k _ h => .inl h).trans (on9.mono fun k _ h => .inr (.inr h))) (.inl (.inr (.inl rfl))) _
              have hfin := hony.trans' on10 (fun j hj h => by
                rcases h with h | h | h
                · exact .inl h
                · exact .inr h
                · have := (World.ownsRow.lt hoi _ h).1; omega)
              have hst10 := hide ((blk_set hk9 4 (.slice A9 (il.length + 1) c9)).trans (by simp : _ = some (Obj.cells #[.int .i64 v1, .int .u64 u2, .bool u3, .int .i64 v4, .slice A9 (il.length + 1) c9] 41 (0, 0))))
              clear on9 on10 R9 ho9 hg9 hat9 hb9 BK9 hk9 BX6 BJ6 hoi6 hx6 ony pna m6 P6 j6 hoi h6y hony BGy hGy Ry
              go_wp2_with fail
              go_roundw
              case rel => exact ⟨m + 1, rawI ++ [⟨c1, c2, c3⟩], d3, il ++ [⟨a1, c2, a3⟩], A9, c9, by omega, by go_num, hide (by unfold repR; rw [hri.out]; simp only [HRi.out]), hide (by rw [hil.out, List.map_append, Ha1.out, Ha3.out]; rfl), hide (by rw [List.length_append, hilm.out]; rfl), R10, by rw [List.length_append]; exact ho10, by rw [List.length_append]; exact hst10.out, hfin⟩
              case measure => simp [intOf]; omega
            · have hre : (ye == 0) = false := by simpa using hye
              have hstk := hide (show (repR rdIn n2 t5).2 = (yl, ye) by
                have := repR_stuck (p := rdIn) (fun st h => rdIn_stuck h) (s := t5) (n2 - m) m (by rw [hri.out]; exact hye)
                rw [show m + (n2 - m) = n2 by omega, hri.out] at this
                exact this)
              have hgood := hide (show ye = 0 → (repR rdIn n2 t5).1 = rawI from fun h => absurd h hye)
              have h5y := hony.boxed h5r6 (by omega)
              have hoqy := hony.own hoq6 (fun j e e2 => by
                have h1 := (World.ownsRow.lt hoq6 _ e).1
                have h2 := Hq1.out j e
                omega)
              have hiqy : InsOwn w5.heap.size wr q := fun y hy => hony.own (hiq6 y hy) (fun j e e2 => by
                have h1 := (World.ownsRow.lt (hiq6 y hy) _ e).1
                have h2 := Hq2.out y hy j e
                omega)
              have hz5 : w5.heap.size ≤ wr.heap.size := by have := hony.size; omega
              have hoi5 := hoi.mono (show w5.heap.size ≤ x9.heap.size by omega)
              have BS := boxed h6y
              have BT := boxed h5y
              have hqk' := hide (show q.length ≤ 1024 by have := hqk.out; omega)
              have hil1024 := hide (show il.length ≤ 1024 by have := hilm.out; omega)
              go_upto_region 6 with (at_builtin; refine wpList_app1 rfl (.tmp 81) (.tmp 83) rfl SumE.enc sumTD (⟨v1, u2, u3, v4, IA, IC, il⟩ : SumE) rfl rfl rfl hoqy (by rfl) (by have := hqk'.out; omega) (by have := hqk'.out; unfold maxLen; omega) hz5 ?_; intro A9 c9 w9 ho9 hm9 hb9 hg9 hat9; have hk9 := heap_grownOwn hoqy hg9 h5y (by decide); have BK9 := boxed hk9; have l99 : Later w9 w9 := Later.refl)
              have on9 : Only (fun k => (Value.slice QA q.length QC).ownBlock = some k) wr w9 := Only.of_grown hg9
              have R9 := Ry.only on9 (fun j hj => ⟨by have h1 := (World.ownsRow.lt hoqy _ hj).1; have := Ry.gw; omega, by have h1 := (World.ownsRow.lt hoqy _ hj).1; omega⟩)
              have R10 := R9.only (Only.setCell (s := fun k => k = w3.heap.size) (p := ⟨w3.heap.size, 1, none⟩) Only.refl (.inl rfl) (.slice A9 (q.length + 1) c9)) (fun j hj => ⟨by have := Ry.gw; omega, by omega⟩)
              have hx9 := own_grownOwn hoqy hg9 hoi5 (by decide)
              have hi10 : InsOwn w5.heap.size (w9.setCell ⟨w3.heap.size, 1, none⟩ (.slice A9 (q.length + 1) c9)) (q ++ [(⟨v1, u2, u3, v4, IA, IC, il⟩ : SumE)]) := fun y hy => by
                have h1 : Own InsetE.cells 3 58 w5.heap.size w9 (.slice y.A y.inset.length y.c) y.inset := by
                  rcases List.mem_append.1 hy with hy | hy
                  · exact own_grownOwn hoqy hg9 (hiqy y hy) (by decide)
                  · rw [List.mem_singleton] at hy; subst hy; exact hx9
                exact h1.far (p := ⟨w3.heap.size, 1, none⟩) (own_off h1 hk9 (by decide)) _
              have ho10 := ho9.far (p := ⟨w3.heap.size, 1, none⟩) (own_off ho9 hk9 (by decide)) (.slice A9 (q.length + 1) c9)
              have on10 : Only (fun k => k = g ∨ k = x1.heap.size ∨ (Value.slice QA q.length QC).ownBlock = some k ∨ k = w3.heap.size) x9 (w9.setCell ⟨w3.heap.size, 1, none⟩ (.slice A9 (q.length + 1) c9)) :=
                Only.setCell ((hony.mono fun k _ h => h.elim .inl (fun h => .inr (.inl h))).trans (on9.mono fun k _ h => .inr (.inr (.inl h)))) (.inl (.inr (.inr (.inr rfl)))) _
              have on11 := (on6.mono fun k _ h => (.inl h : k = g ∨ k = x1.heap.size ∨ (Value.slice QA q.length QC).ownBlock = some k ∨ k = w3.heap.size)).trans on10
              have hfin := honr.trans' on11 (fun j hj h => by
                rcases h with h | h | h | h
                · exact .inl h
                · omega
                · have := (World.ownsRow.lt hoqy _ h).1; omega
                · exact .inr h)
              have hrwk := hide (show repR rdSu (k + 1) s1 = ((repR rdSu (k + 1) s1).1, (yl, ye)) from Prod.ext rfl (by
                show (rdSu (repR rdSu k s1).2).2 = (yl, ye)
                rw [hrw.out]
                show (rdSu (rl, 0)).2 = (yl, ye)
                rw [HRd.out]
                exact hstk.out))
              have hqn := hide (show ye = 0 → (q ++ [(⟨v1, u2, u3, v4, IA, IC, il⟩ : SumE)]).map SumE.con = (repR rdSu (k + 1) s1).1.map cvS from fun h => by
                have h1 := hgood.out h
                unfold repR
                rw [hrw.out]
                simp only [HRd.out]
                rw [List.map_append, List.map_append, hq0.out, h1, hil.out, Hv1.out, Hv4.out]; rfl)
              have hst10 := hide ((blk_set hk9 1 (.slice A9 (q.length + 1) c9)).trans (by simp : _ = some (Obj.cells #[.int .i64 ep, .slice A9 (q.length + 1) c9] 34 (0, 0))))
              clear on9 on10 on11 R9 hx9 ho9 hg9 hat9 hb9 BK9 hk9 BS BT hony hoqy hiqy hoi hoi5 BGy hGy Ry
              go_wp2_with fail
              go_roundw
              case rel => exact ⟨k + 1, (repR rdSu (k + 1) s1).1, (yl, ye), q ++ [(⟨v1, u2, u3, v4, IA, IC, il⟩ : SumE)], A9, c9, by omega, by go_num, hrwk, hqn, hide (by rw [List.length_append, hqk.out]; rfl), R10, by rw [List.length_append]; exact ho10, hi10, by rw [List.length_append]; exact hst10.out, hfin⟩
              case measure => simp [intOf]; omega
          · have hmm : m = n2 := by omega
            subst hmm
            have hmid : decide ((m : Int) < (m : Int)) = false := by simp
            have hstk := hide (show (repR rdIn m t5).2 = (yl, ye) by rw [hri.out])
            have hgood := hide (show ye = 0 → (repR rdIn m t5).1 = rawI from fun _ => by rw [hri.out])
            have h5y := hony.boxed h5r6 (by omega)
            have hoqy := hony.own hoq6 (fun j e e2 => by
              have h1 := (World.ownsRow.lt hoq6 _ e).1
              have h2 := Hq1.out j e
              omega)
            have hiqy : InsOwn w5.heap.size wr q := fun y hy => hony.own (hiq6 y hy) (fun j e e2 => by
              have h1 := (World.ownsRow.lt (hiq6 y hy) _ e).1
              have h2 := Hq2.out y hy j e
              omega)
            have hz5 : w5.heap.size ≤ wr.heap.size := by have := hony.size; omega
            have hoi5 := hoi.mono (show w5.heap.size ≤ x9.heap.size by omega)
            have BS := boxed h6y
            have BT := boxed h5y
            have hqk' := hide (show q.length ≤ 1024 by have := hqk.out; omega)
            have hil1024 := hide (show il.length ≤ 1024 by have := hilm.out; omega)
            go_upto_region 6 with (at_builtin; refine wpList_app1 rfl (.tmp 81) (.tmp 83) rfl SumE.enc sumTD (⟨v1, u2, u3, v4, IA, IC, il⟩ : SumE) rfl rfl rfl hoqy (by rfl) (by have := hqk'.out; omega) (by have := hqk'.out; unfold maxLen; omega) hz5 ?_; intro A9 c9 w9 ho9 hm9 hb9 hg9 hat9; have hk9 := heap_grownOwn hoqy hg9 h5y (by decide); have BK9 := boxed hk9; have l99 : Later w9 w9 := Later.refl)
            have on9 : Only (fun k => (Value.slice QA q.length QC).ownBlock = some k) wr w9 := Only.of_grown hg9
            have R9 := Ry.only on9 (fun j hj => ⟨by have h1 := (World.ownsRow.lt hoqy _ hj).1; have := Ry.gw; omega, by have h1 := (World.ownsRow.lt hoqy _ hj).1; omega⟩)
            have R10 := R9.only (Only.setCell (s := fun k => k = w3.heap.size) (p := ⟨w3.heap.size, 1, none⟩) Only.refl (.inl rfl) (.slice A9 (q.length + 1) c9)) (fun j hj => ⟨by have := Ry.gw; omega, by omega⟩)
            have hx9 := own_grownOwn hoqy hg9 hoi5 (by decide)
            have hi10 : InsOwn w5.heap.size (w9.setCell ⟨w3.heap.size, 1, none⟩ (.slice A9 (q.length + 1) c9)) (q ++ [(⟨v1, u2, u3, v4, IA, IC, il⟩ : SumE)]) := fun y hy => by
              have h1 : Own InsetE.cells 3 58 w5.heap.size w9 (.slice y.A y.inset.length y.c) y.inset := by
                rcases List.mem_append.1 hy with hy | hy
                · exact own_grownOwn hoqy hg9 (hiqy y hy) (by decide)
                · rw [List.mem_singleton] at hy; subst hy; exact hx9
              exact h1.far (p := ⟨w3.heap.size, 1, none⟩) (own_off h1 hk9 (by decide)) _
            have ho10 := ho9.far (p := ⟨w3.heap.size, 1, none⟩) (own_off ho9 hk9 (by decide)) (.slice A9 (q.length + 1) c9)
            have on10 : Only (fun k => k = g ∨ k = x1.heap.size ∨ (Value.slice QA q.length QC).ownBlock = some k ∨ k = w3.heap.size) x9 (w9.setCell ⟨w3.heap.size, 1, none⟩ (.slice A9 (q.length + 1) c9)) :=
              Only.setCell ((hony.mono fun k _ h => h.elim .inl (fun h => .inr (.inl h))).trans (on9.mono fun k _ h => .inr (.inr (.inl h)))) (.inl (.inr (.inr (.inr rfl)))) _
            have on11 := (on6.mono fun k _ h => (.inl h : k = g ∨ k = x1.heap.size ∨ (Value.slice QA q.length QC).ownBlock = some k ∨ k = w3.heap.size)).trans on10
            have hfin := honr.trans' on11 (fun j hj h => by
              rcases h with h | h | h | h
              · exact .inl h
              · omega
              · have := (World.ownsRow.lt hoqy _ h).1; omega
              · exact .inr h)
            have hrwk := hide (show repR rdSu (k + 1) s1 = ((repR rdSu (k + 1) s1).1, (yl, ye)) from Prod.ext rfl (by
              show (rdSu (repR rdSu k s1).2).2 = (yl, ye)
              rw [hrw.out]
              show (rdSu (rl, 0)).2 = (yl, ye)
              rw [HRd.out]
              exact hstk.out))
            have hqn := hide (show ye = 0 → (q ++ [(⟨v1, u2, u3, v4, IA, IC, il⟩ : SumE)]).map SumE.con = (repR rdSu (k + 1) s1).1.map cvS from fun h => by
              have h1 := hgood.out h
              unfold repR
              rw [hrw.out]
              simp only [HRd.out]
              rw [List.map_append, List.map_append, hq0.out, h1, hil.out, Hv1.out, Hv4.out]; rfl)
            have hst10 := hide ((blk_set hk9 1 (.slice A9 (q.length + 1) c9)).trans (by simp : _ = some (Obj.cells #[.int .i64 ep, .slice A9 (q.length + 1) c9] 34 (0, 0))))
            clear on9 on10 on11 R9 hx9 ho9 hg9 hat9 hb9 BK9 hk9 BS BT hony hoqy hiqy hoi hoi5 BGy hGy Ry
            go_wp2_with fail
            go_roundw
            case rel => exact ⟨k + 1, (repR rdSu (k + 1) s1).1, (yl, ye), q ++ [(⟨v1, u2, u3, v4, IA, IC, il⟩ : SumE)], A9, c9, by omega, by go_num, hrwk, hqn, hide (by rw [List.length_append, hqk.out]; rfl), R10, by rw [List.length_append]; exact ho10, hi10, by rw [List.length_append]; exact hst10.out, hfin⟩
            case measure => simp [intOf]; omega
      · have hre : (re == 0) = false := by simpa using hst
        have hE := hide (show ∃ X, rdS (b, 0) = ((n0, X), (rl, re)) ∧ (re = 0 → q.map SumE.con = X.map cvS) by
          have h := repR_stuck (p := rdSu) (fun st h => rdSu_stuck h) (s := s1) (n - k) k (by rw [hrw.out]; exact hst); rw [show k + (n - k) = n by omega, hrw.out] at h; exact ⟨(repR rdSu n s1).1, by rw [hL.out, h], fun h => absurd h hst⟩)
        obtain ⟨X, hEX⟩ : ∃ X, Hid (rdS (b, 0) = ((n0, X), (rl, re)) ∧ (re = 0 → q.map SumE.con = X.map cvS)) := by obtain ⟨X, h⟩ := hE.out; exact ⟨X, hide h⟩
        have hbr : Below w.heap.size w wr := hB5.trans (honr.below (fun j e => by rcases e with e | e <;> omega) hB5.size)
        have h2r := honr.boxed h25 (by omega)
        have HD : ∀ W, RR wb g W (rl, re) → Calls Try.prog 57 #[.pointer (some ⟨g, 0, none⟩)] W fun r w' => r = .returned (.int .i64 (endE (rl, re))) ∧ Below W.heap.size W w' := fun W R => rdone_any wb g (rl, re) W R
        have B2' := boxed h2r
        have B5' := boxed h5r
        have hq1 : q.length ≤ 1024 := by have := hqk.out; omega
        have SQ : ∀ u [Later wr u], SumsAt u QA q := fun u i => (hiq.below i.below).sums ((hoq.below i.below).at_ SumE.enc).2.2
        have hql2 : q.length ≤ 9223372036854775807 := by omega
        have hqi2 : ∀ y ∈ q, y.inset.length ≤ 9223372036854775807 := fun y hy => Nat.le_trans ((SQ wr).c y hy).1 (by have := ((SQ wr).c y hy).2; unfold maxLen at this; omega)
        obtain ⟨V, hV⟩ : ∃ V, V = validS ep (q.map SumE.con) := ⟨_, rfl⟩
        have HV : ∀ u [Later wr u], Calls Try.prog 30 #[.agg #[.int .i64 ep, .slice QA q.length QC]] u fun r w' => r = .returned (.bool V) ∧ Below u.heap.size u w' := fun u i => by
          rw [hV]
          exact refValid_any ep QA QC q u (SQ u) hql2 hqi2
        obtain ⟨ee, hee⟩ : ∃ ee, ee = endE (rl, re) := ⟨_, rfl⟩
        rw [← hee] at HD
        have HDD : ∀ u [Later wr u], Calls Try.prog 57 #[.pointer (some ⟨g, 0, none⟩)] u fun r w' => r = .returned (.int .i64 ee) ∧ Below u.heap.size u w' := fun u i => HD u (Rr.below i.below)
        clear HD
        have lbr : Later w wr := ⟨hbr⟩
        by_cases he : ee = 0
        · subst he
          have hre0 : re = 0 := by have := endE_zero.1 hee.symm; injection this
          have hqx := hEX.out.2 hre0
          have hVd := hide (show V = validS (i64 n0) (X.map cvS) by rw [hV, hqx, Hep.out])
          have hV2 := hide hV
          clear hV
          cases V
          · have hd := hide (show decS b = (0, [], 11) by unfold decS; rw [hEX.out.1]; dsimp only; rw [← hVd.out, if_neg (fun h => by cases h.2)])
            clear hee hre0 hqx
            go_upto_region 20 with fail
            (refine wp_region_after (by kernel_rfl) (by kernel_rfl) ?_
             repeat (any_goals (first | go_big_quiet_skip | (go_big_quiet_want; go_big_quiet_op; first | go_big_quiet_on | go_big_quiet_call ((first | (go_at_call 57; exact Calls.after (HDD _)) | (go_at_call 30; exact Calls.after (HV _))))) | quiet_step ((first | (go_at_call 57; exact Calls.after (HDD _)) | (go_at_call 30; exact Calls.after (HV _)))) | (refine wpQuiet_step (fun K hK => ?_); go_simp; split <;> (refine hK _ ?_; clear hK K))))
             all_goals (refine wpQuiet_nil ?_; intro _ hw'; obtain ⟨u', hw''⟩ := hw'; subst hw''; obtain ⟨wd, hbd⟩ := u'; simp only [After.val_mk]))
            have ld := later hbd
            go_wp2_with fail
            have lrz : Later wr wd := ⟨below_of⟩
            have hbz : Below w.heap.size w wd := hbr.trans (lrz.below.mono hbr.size)
            have hW := (blk_set (blk_set (B2' wd).1 0 (.int .i64 0)) 1 (.slice none 0 0)).trans (by simp : _ = some (Obj.cells #[.int .i64 0, .slice none 0 0] 34 (0, 0)))
            have r0 := blk_cell hW 0
            have r1 := blk_cell hW 1
            simp at r0 r1
            refine bodyPost_ret (v := .tuple #[.agg #[.int .i64 0, .slice none 0 0], .int .i64 11]) (by simp [results, Try.results28, go_sem, r0, r1]) rfl ?_
            exact ⟨0, [], none, 0, 11, hide (by rw [hd.out]; rfl), rfl, ⟨SlAt.nil, (fun y hy => by cases hy), (fun y hy => by cases hy)⟩, (hbz.setCell (p := ⟨w.heap.size, 0, none⟩) (Nat.le_refl _) _).setCell (p := ⟨w.heap.size, 1, none⟩) (Nat.le_refl _) _⟩
          · have hd := hide (show decS b = (ep, X.map cvS, 0) by unfold decS; rw [hEX.out.1]; dsimp only; rw [← hVd.out, if_pos ⟨hee.symm, rfl⟩, Hep.out])
            have hz0 := decS_zero hb (by rw [hd.out])
            rw [hd.out] at hz0
            have HE : ∀ u [Later wr u], Calls Try.prog 31 #[.agg #[.int .i64 ep, .slice QA q.length QC]] u (EncP b u) := fun u i => by
              have := refEncode_any ep QA QC q u (SQ u) hql2 hqi2 hz0.2.2.1.2 (fun x hx => hz0.2.2.2 x.con (by show x.con ∈ X.map cvS; rw [← hqx]; exact List.mem_map_of_mem hx))
              rw [← hV2.out, if_pos rfl, hqx] at this
              have e : encS ep (X.map cvS) = b := hz0.1
              rw [e] at this
              exact this
            have Hqx := hide hqx
            clear hee hre0 hqx hz0
            go_upto_region 20 with fail
            refine wp_region_held_drew (S := fun w' => ∀ b [Later b wr], Later b w') (by kernel_rfl) (fun b _ => inferInstance) (fun hHeld => ?_)
            refine wpAnyH_take (i := 0) (oi := _) (v := ?_) rfl (by kernel_rfl) (by kernel_rfl) (by kernel_rfl) (fun _ _ _ h => h) (Or.inl ⟨by rfl, ?_⟩) (by assumption) ?_
            rotate_left 1
            · (intro wy hSw; (try dsimp only at hSw); go_simp; try with_reducible rfl)
            (try simp only [Act.put])
            refine wpAnyH_ready (rs := [1]) (by kernel_rfl) (by simp) ?_
            refine AllReadyH.cons (o := _) rfl (fun K9 hK9 => ?_) AllReadyH.nil
            go_simp
            refine (HDD _).mono ?_
            rintro r z1 ⟨rfl, hz⟩
            have lz1 := later hz
            have lz11 : Later z1 z1 := Later.refl
            (try dsimp only)
            refine hK9.out _ _ (by intro b _; infer_instance) (fun hHeld => ?_)
            clear hK9 K9
            (try simp only [Act.put])
            refine wpAnyH_take (i := 2) (oi := _) (v := ?_) rfl (by kernel_rfl) (by kernel_rfl) (by kernel_rfl) (fun _ _ _ h => h) (Or.inl ⟨by rfl, ?_⟩) (by assumption) ?_
            rotate_left 1
            · (intro wy hSw; (try dsimp only at hSw); go_simp; try with_reducible rfl)
            (try simp only [Act.put])
            refine wpAnyH_take (i := 3) (oi := _) (v := ?_) rfl (by kernel_rfl) (by kernel_rfl) (by kernel_rfl) (fun _ _ _ h => h) (Or.inl ⟨by rfl, ?_⟩) (by assumption) ?_
            rotate_left 1
            · (intro wy hSw; (try dsimp only at hSw); go_simp; try with_reducible rfl)
            (try simp only [Act.put])
            refine wpAnyH_take (i := 4) (oi := _) (v := ?_) rfl (by kernel_rfl) (by kernel_rfl) (by kernel_rfl) (fun _ _ _ h => h) (Or.inl ⟨by rfl, ?_⟩) (by assumption) ?_
            rotate_left 1
            · (intro wy hSw; (try dsimp only at hSw); go_simp; try with_reducible rfl)
            (try simp only [Act.put])
            refine wpAnyH_ready (rs := [5]) (by kernel_rfl) (by simp) ?_
            refine AllReadyH.cons (o := _) rfl (fun K9 hK9 => ?_) AllReadyH.nil
            go_simp
            refine (HV _).mono ?_
            rintro r z2 ⟨rfl, hz2⟩
            have lz2 := later hz2
            have lz22 : Later z2 z2 := Later.refl
            (try dsimp only)
            refine hK9.out _ _ (by intro b _; infer_instance) (fun hHeld => ?_)
            clear hK9 K9
            (try simp only [Act.put])
            refine wpAnyH_take (i := 6) (oi := _) (v := ?_) rfl (by kernel_rfl) (by kernel_rfl) (by kernel_rfl) (fun _ _ _ h => h) (Or.inl ⟨by rfl, ?_⟩) (by assumption) ?_
            rotate_left 1
            · (intro wy hSw; (try dsimp only at hSw); go_simp; try with_reducible rfl)
            (try simp only [Act.put])
            refine wpAnyH_take (i := 7) (oi := _) (v := ?_) rfl (by kernel_rfl) (by kernel_rfl) (by kernel_rfl) (fun _ _ _ h => h) (Or.inl ⟨by rfl, ?_⟩) (by assumption) ?_
            rotate_left 1
            · (intro wy hSw; (try dsimp only at hSw); go_simp; try with_reducible rfl)
            (try simp only [Act.put])
            refine wpAnyH_take (i := 8) (oi := _) (v := ?_) rfl (by kernel_rfl) (by kernel_rfl) (by kernel_rfl) (fun _ _ _ h => h) (Or.inl ⟨by rfl, ?_⟩) (by assumption) ?_
            rotate_left 1
            · (intro wy hSw; (try dsimp only at hSw); go_simp; try with_reducible rfl)
            (try simp only [Act.put])
            refine wpAnyH_take (i := 9) (oi := _) (v := ?_) rfl (by kernel_rfl) (by kernel_rfl) (by kernel_rfl) (fun _ _ _ h => h) (Or.inl ⟨by rfl, ?_⟩) (by assumption) ?_
            rotate_left 1
            · (intro wy hSw; (try dsimp only at hSw); go_simp; try with_reducible rfl)
            (try simp only [Act.put])
            refine wpAnyH_take (i := 12) (oi := _) (v := ?_) rfl (by kernel_rfl) (by kernel_rfl) (by kernel_rfl) (fun _ _ _ h => h) (Or.inl ⟨by rfl, ?_⟩) (by assumption) ?_
            rotate_left 1
            · (intro wy hSw; (try dsimp only at hSw); go_simp; try with_reducible rfl)
            (try simp only [Act.put])
            refine wpAnyH_take (i := 13) (oi := _) (v := ?_) rfl (by kernel_rfl) (by kernel_rfl) (by kernel_rfl) (fun _ _ _ h => h) (Or.inl ⟨by rfl, ?_⟩) (by assumption) ?_
            rotate_left 1
            · (intro wy hSw; (try dsimp only at hSw); go_simp; try with_reducible rfl)
            (try simp only [Act.put])
            refine wpAnyH_ready (rs := [10]) (by kernel_rfl) (by simp) ?_
            refine AllReadyH.cons (o := _) rfl (fun K9 hK9 => ?_) AllReadyH.nil
            go_simp
            refine (HE _).mono ?_
            rintro r z3 ⟨q6, A6, c6, hq6, rfl, hs6, hz3⟩
            have lz3 := later hz3
            have lz33 : Later z3 z3 := Later.refl
            have HC6 : ∀ u [Later z3 u], (convert 71 9 (.slice A6 q6.length c6)).run Try.prog u = .ok (.string (strB b)) u := fun u i => conv_to A6 c6 q6 b b u (hs6.below i.below) hq6 (hide rfl)
            (try dsimp only)
            refine hK9.out _ _ (by intro b _; infer_instance) (fun hHeld => ?_)
            clear hK9 K9
            (try simp only [Act.put])
            refine wpAnyH_ready (rs := [11]) (by kernel_rfl) (by simp) ?_
            refine AllReadyH.cons (o := _) rfl (fun K9 hK9 => ?_) AllReadyH.nil
            go_simp
            refine hK9.out _ _ (by intro b _; infer_instance) (fun hHeld => ?_)
            clear hK9 K9
            (try simp only [Act.put])
            refine wpAnyH_take (i := 14) (oi := _) (v := ?_) rfl (by kernel_rfl) (by kernel_rfl) (by kernel_rfl) (fun _ _ _ h => h) (Or.inl ⟨by rfl, ?_⟩) (by assumption) ?_
            rotate_left 1
            · (intro wy hSw; (try dsimp only at hSw); go_simp; try with_reducible rfl)
            (try simp only [Act.put])
            refine wpAnyH_ready (rs := [15]) (by kernel_rfl) (by simp) ?_
            refine AllReadyH.cons (o := _) rfl (fun K9 hK9 => ?_) AllReadyH.nil
            go_simp
            refine hK9.out _ _ (by intro b _; infer_instance) (fun hHeld => ?_)
            clear hK9 K9
            (try simp only [Act.put])
            refine wpAnyH_done (by kernel_rfl) ?_ _
            go_wp2_with fail
            have lrz : Later wr z3 := ⟨below_of⟩
            have hbz : Below w.heap.size w z3 := hbr.trans (lrz.below.mono hbr.size)
            have hW := (blk_set (blk_set (B2' z3).1 0 (.int .i64 ep)) 1 (.slice QA q.length QC)).trans (by simp : _ = some (Obj.cells #[.int .i64 ep, .slice QA q.length QC] 34 (0, 0)))
            have r0 := blk_cell hW 0
            have r1 := blk_cell hW 1
            simp at r0 r1
            have hzz : w.heap.size < w5.heap.size := by omega
            have hoz := ((hoq.below lrz.below).set (p := ⟨w.heap.size, 0, none⟩) hzz (.int .i64 ep)).set (p := ⟨w.heap.size, 1, none⟩) hzz (.slice QA q.length QC)
            have hiz : InsOwn w5.heap.size ((z3.setCell ⟨w.heap.size, 0, none⟩ (.int .i64 ep)).setCell ⟨w.heap.size, 1, none⟩ (.slice QA q.length QC)) q := fun y hy => (((hiq y hy).below lrz.below).set (p := ⟨w.heap.size, 0, none⟩) hzz _).set (p := ⟨w.heap.size, 1, none⟩) hzz _
            refine bodyPost_ret (v := .tuple #[.agg #[.int .i64 ep, .slice QA q.length QC], .int .i64 0]) (by simp [results, Try.results28, go_sem, r0, r1]) rfl ?_
            exact ⟨ep, q, QA, QC, 0, hide (by rw [hd.out, Hqx.out]), rfl, hiz.sums (hoz.at_ SumE.enc).2.2, (hbz.setCell (p := ⟨w.heap.size, 0, none⟩) (Nat.le_refl _) _).setCell (p := ⟨w.heap.size, 1, none⟩) (Nat.le_refl _) _⟩
        · have he' : (ee != 0) = true := by simpa using he
          have hd := hide (show decS b = (0, [], 11) by unfold decS; rw [hEX.out.1]; dsimp only; rw [if_neg (fun h => he (hee.trans h.1))])
          clear hee hV
          go_upto_region 20 with fail
          (refine wp_region_after (by kernel_rfl) (by kernel_rfl) ?_
           repeat (any_goals (first | go_big_quiet_skip | (go_big_quiet_want; go_big_quiet_op; first | go_big_quiet_on | go_big_quiet_call ((go_at_call 57; exact Calls.after (HDD _)))) | quiet_step ((go_at_call 57; exact Calls.after (HDD _))) | (refine wpQuiet_step (fun K hK => ?_); go_simp; split <;> (refine hK _ ?_; clear hK K))))
           all_goals (refine wpQuiet_nil ?_; intro _ hw'; obtain ⟨u', hw''⟩ := hw'; subst hw''; obtain ⟨wd, hbd⟩ := u'; simp only [After.val_mk]))
          have ld := later hbd
          go_wp2_with fail
          have lrz : Later wr wd := ⟨below_of⟩
          have hbz : Below w.heap.size w wd := hbr.trans (lrz.below.mono hbr.size)
          have hW := (blk_set (blk_set (B2' wd).1 0 (.int .i64 0)) 1 (.slice none 0 0)).trans (by simp : _ = some (Obj.cells #[.int .i64 0, .slice none 0 0] 34 (0, 0)))
          have r0 := blk_cell hW 0
          have r1 := blk_cell hW 1
          simp at r0 r1
          refine bodyPost_ret (v := .tuple #[.agg #[.int .i64 0, .slice none 0 0], .int .i64 11]) (by simp [results, Try.results28, go_sem, r0, r1]) rfl ?_
          exact ⟨0, [], none, 0, 11, hide (by rw [hd.out]; rfl), rfl, ⟨SlAt.nil, (fun y hy => by cases hy), (fun y hy => by cases hy)⟩, (hbz.setCell (p := ⟨w.heap.size, 0, none⟩) (Nat.le_refl _) _).setCell (p := ⟨w.heap.size, 1, none⟩) (Nat.le_refl _) _⟩
    · have hkk : k = n := by omega
      subst hkk
      have hkid : decide ((k : Int) < (k : Int)) = false := by simp
      have hE := hide (show ∃ X, rdS (b, 0) = ((n0, X), (rl, re)) ∧ (re = 0 → q.map SumE.con = X.map cvS) by
        exact ⟨raws, by rw [hL.out, hrw.out], fun h => hq.out h⟩)
      obtain ⟨X, hEX⟩ : ∃ X, Hid (rdS (b, 0) = ((n0, X), (rl, re)) ∧ (re = 0 → q.map SumE.con = X.map cvS)) := by obtain ⟨X, h⟩ := hE.out; exact ⟨X, hide h⟩
      have hbr : Below w.heap.size w wr := hB5.trans (honr.below (fun j e => by rcases e with e | e <;> omega) hB5.size)
      have h2r := honr.boxed h25 (by omega)
      have HD : ∀ W, RR wb g W (rl, re) → Calls Try.prog 57 #[.pointer (some ⟨g, 0, none⟩)] W fun r w' => r = .returned (.int .i64 (endE (rl, re))) ∧ Below W.heap.size W w' := fun W R => rdone_any wb g (rl, re) W R
      have B2' := boxed h2r
      have B5' := boxed h5r
      have hq1 : q.length ≤ 1024 := by have := hqk.out; omega
      have SQ : ∀ u [Later wr u], SumsAt u QA q := fun u i => (hiq.below i.below).sums ((hoq.below i.below).at_ SumE.enc).2.2
      have hql2 : q.length ≤ 9223372036854775807 := by omega
      have hqi2 : ∀ y ∈ q, y.inset.length ≤ 9223372036854775807 := fun y hy => Nat.le_trans ((SQ wr).c y hy).1 (by have := ((SQ wr).c y hy).2; unfold maxLen at this; omega)
      obtain ⟨V, hV⟩ : ∃ V, V = validS ep (q.map SumE.con) := ⟨_, rfl⟩
      have HV : ∀ u [Later wr u], Calls Try.prog 30 #[.agg #[.int .i64 ep, .slice QA q.length QC]] u fun r w' => r = .returned (.bool V) ∧ Below u.heap.size u w' := fun u i => by
        rw [hV]
        exact refValid_any ep QA QC q u (SQ u) hql2 hqi2
      obtain ⟨ee, hee⟩ : ∃ ee, ee = endE (rl, re) := ⟨_, rfl⟩
      rw [← hee] at HD
      have HDD : ∀ u [Later wr u], Calls Try.prog 57 #[.pointer (some ⟨g, 0, none⟩)] u fun r w' => r = .returned (.int .i64 ee) ∧ Below u.heap.size u w' := fun u i => HD u (Rr.below i.below)
      clear HD
      have lbr : Later w wr := ⟨hbr⟩
      by_cases he : ee = 0
      · subst he
        have hre0 : re = 0 := by have := endE_zero.1 hee.symm; injection this
        have hqx := hEX.out.2 hre0
        have hVd := hide (show V = validS (i64 n0) (X.map cvS) by rw [hV, hqx, Hep.out])
        have hV2 := hide hV
        clear hV
        cases V
        · have hd := hide (show decS b = (0, [], 11) by unfold decS; rw [hEX.out.1]; dsimp only; rw [← hVd.out, if_neg (fun h => by cases h.2)])
          clear hee hre0 hqx
          go_upto_region 20 with fail
          (refine wp_region_after (by kernel_rfl) (by kernel_rfl) ?_
           repeat (any_goals (first | go_big_quiet_skip | (go_big_quiet_want; go_big_quiet_op; first | go_big_quiet_on | go_big_quiet_call ((first | (go_at_call 57; exact Calls.after (HDD _)) | (go_at_call 30; exact Calls.after (HV _))))) | quiet_step ((first | (go_at_call 57; exact Calls.after (HDD _)) | (go_at_call 30; exact Calls.after (HV _)))) | (refine wpQuiet_step (fun K hK => ?_); go_simp; split <;> (refine hK _ ?_; clear hK K))))
           all_goals (refine wpQuiet_nil ?_; intro _ hw'; obtain ⟨u', hw''⟩ := hw'; subst hw''; obtain ⟨wd, hbd⟩ := u'; simp only [After.val_mk]))
          have ld := later hbd
          go_wp2_with fail
          have lrz : Later wr wd := ⟨below_of⟩
          have hbz : Below w.heap.size w wd := hbr.trans (lrz.below.mono hbr.size)
          have hW := (blk_set (blk_set (B2' wd).1 0 (.int .i64 0)) 1 (.slice none 0 0)).trans (by simp : _ = some (Obj.cells #[.int .i64 0, .slice none 0 0] 34 (0, 0)))
          have r0 := blk_cell hW 0
          have r1 := blk_cell hW 1
          simp at r0 r1
          refine bodyPost_ret (v := .tuple #[.agg #[.int .i64 0, .slice none 0 0], .int .i64 11]) (by simp [results, Try.results28, go_sem, r0, r1]) rfl ?_
          exact ⟨0, [], none, 0, 11, hide (by rw [hd.out]; rfl), rfl, ⟨SlAt.nil, (fun y hy => by cases hy), (fun y hy => by cases hy)⟩, (hbz.setCell (p := ⟨w.heap.size, 0, none⟩) (Nat.le_refl _) _).setCell (p := ⟨w.heap.size, 1, none⟩) (Nat.le_refl _) _⟩
        · have hd := hide (show decS b = (ep, X.map cvS, 0) by unfold decS; rw [hEX.out.1]; dsimp only; rw [← hVd.out, if_pos ⟨hee.symm, rfl⟩, Hep.out])
          have hz0 := decS_zero hb (by rw [hd.out])
          rw [hd.out] at hz0
          have HE : ∀ u [Later wr u], Calls Try.prog 31 #[.agg #[.int .i64 ep, .slice QA q.length QC]] u (EncP b u) := fun u i => by
            have := refEncode_any ep QA QC q u (SQ u) hql2 hqi2 hz0.2.2.1.2 (fun x hx => hz0.2.2.2 x.con (by show x.con ∈ X.map cvS; rw [← hqx]; exact List.mem_map_of_mem hx))
            rw [← hV2.out, if_pos rfl, hqx] at this
            have e : encS ep (X.map cvS) = b := hz0.1
            rw [e] at this
            exact this
          have Hqx := hide hqx
          clear hee hre0 hqx hz0
          go_upto_region 20 with fail
          refine wp_region_held_drew (S := fun w' => ∀ b [Later b wr], Later b w') (by kernel_rfl) (fun b _ => inferInstance) (fun hHeld => ?_)
          refine wpAnyH_take (i := 0) (oi := _) (v := ?_) rfl (by kernel_rfl) (by kernel_rfl) (by kernel_rfl) (fun _ _ _ h => h) (Or.inl ⟨by rfl, ?_⟩) (by assumption) ?_
          rotate_left 1
          · (intro wy hSw; (try dsimp only at hSw); go_simp; try with_reducible rfl)
          (try simp only [Act.put])
          refine wpAnyH_ready (rs := [1]) (by kernel_rfl) (by simp) ?_
          refine AllReadyH.cons (o := _) rfl (fun K9 hK9 => ?_) AllReadyH.nil
          go_simp
          refine (HDD _).mono ?_
          rintro r z1 ⟨rfl, hz⟩
          have lz1 := later hz
          have lz11 : Later z1 z1 := Later.refl
          (try dsimp only)
          refine hK9.out _ _ (by intro b _; infer_instance) (fun hHeld => ?_)
          clear hK9 K9
          (try simp only [Act.put])
          refine wpAnyH_take (i := 2) (oi := _) (v := ?_) rfl (by kernel_rfl) (by kernel_rfl) (by kernel_rfl) (fun _ _ _ h => h) (Or.inl ⟨by rfl, ?_⟩) (by assumption) ?_
          rotate_left 1
          · (intro wy hSw; (try dsimp only at hSw); go_simp; try with_reducible rfl)
          (try simp only [Act.put])
          refine wpAnyH_take (i := 3) (oi := _) (v := ?_) rfl (by kernel_rfl) (by kernel_rfl) (by kernel_rfl) (fun _ _ _ h => h) (Or.inl ⟨by rfl, ?_⟩) (by assumption) ?_
          rotate_left 1
          · (intro wy hSw; (try dsimp only at hSw); go_simp; try with_reducible rfl)
          (try simp only [Act.put])
          refine wpAnyH_take (i := 4) (oi := _) (v := ?_) rfl (by kernel_rfl) (by kernel_rfl) (by kernel_rfl) (fun _ _ _ h => h) (Or.inl ⟨by rfl, ?_⟩) (by assumption) ?_
          rotate_left 1
          · (intro wy hSw; (try dsimp only at hSw); go_simp; try with_reducible rfl)
          (try simp only [Act.put])
          refine wpAnyH_ready (rs := [5]) (by kernel_rfl) (by simp) ?_
          refine AllReadyH.cons (o := _) rfl (fun K9 hK9 => ?_) AllReadyH.nil
          go_simp
          refine (HV _).mono ?_
          rintro r z2 ⟨rfl, hz2⟩
          have lz2 := later hz2
          have lz22 : Later z2 z2 := Later.refl
          (try dsimp only)
          refine hK9.out _ _ (by intro b _; infer_instance) (fun hHeld => ?_)
          clear hK9 K9
          (try simp only [Act.put])
          refine wpAnyH_take (i := 6) (oi := _) (v := ?_) rfl (by kernel_rfl) (by kernel_rfl) (by kernel_rfl) (fun _ _ _ h => h) (Or.inl ⟨by rfl, ?_⟩) (by assumption) ?_
          rotate_left 1
          · (intro wy hSw; (try dsimp only at hSw); go_simp; try with_reducible rfl)
          (try simp only [Act.put])
          refine wpAnyH_take (i := 7) (oi := _) (v := ?_) rfl (by kernel_rfl) (by kernel_rfl) (by kernel_rfl) (fun _ _ _ h => h) (Or.inl ⟨by rfl, ?_⟩) (by assumption) ?_
          rotate_left 1
          · (intro wy hSw; (try dsimp only at hSw); go_simp; try with_reducible rfl)
          (try simp only [Act.put])
          refine wpAnyH_take (i := 8) (oi := _) (v := ?_) rfl (by kernel_rfl) (by kernel_rfl) (by kernel_rfl) (fun _ _ _ h => h) (Or.inl ⟨by rfl, ?_⟩) (by assumption) ?_
          rotate_left 1
          · (intro wy hSw; (try dsimp only at hSw); go_simp; try with_reducible rfl)
          (try simp only [Act.put])
          refine wpAnyH_take (i := 9) (oi := _) (v := ?_) rfl (by kernel_rfl) (by kernel_rfl) (by kernel_rfl) (fun _ _ _ h => h) (Or.inl ⟨by rfl, ?_⟩) (by assumption) ?_
          rotate_left 1
          · (intro wy hSw; (try dsimp only at hSw); go_simp; try with_reducible rfl)
          (try simp only [Act.put])
          refine wpAnyH_take (i := 12) (oi := _) (v := ?_) rfl (by kernel_rfl) (by kernel_rfl) (by kernel_rfl) (fun _ _ _ h => h) (Or.inl ⟨by rfl, ?_⟩) (by assumption) ?_
          rotate_left 1
          · (intro wy hSw; (try dsimp only at hSw); go_simp; try with_reducible rfl)
          (try simp only [Act.put])
          refine wpAnyH_take (i := 13) (oi := _) (v := ?_) rfl (by kernel_rfl) (by kernel_rfl) (by kernel_rfl) (fun _ _ _ h => h) (Or.inl ⟨by rfl, ?_⟩) (by assumption) ?_
          rotate_left 1
          · (intro wy hSw; (try dsimp only at hSw); go_simp; try with_reducible rfl)
          (try simp only [Act.put])
          refine wpAnyH_ready (rs := [10]) (by kernel_rfl) (by simp) ?_
          refine AllReadyH.cons (o := _) rfl (fun K9 hK9 => ?_) AllReadyH.nil
          go_simp
          refine (HE _).mono ?_
          rintro r z3 ⟨q6, A6, c6, hq6, rfl, hs6, hz3⟩
          have lz3 := later hz3
          have lz33 : Later z3 z3 := Later.refl
          have HC6 : ∀ u [Later z3 u], (convert 71 9 (.slice A6 q6.length c6)).run Try.prog u = .ok (.string (strB b)) u := fun u i => conv_to A6 c6 q6 b b u (hs6.below i.below) hq6 (hide rfl)
          (try dsimp only)
          refine hK9.out _ _ (by intro b _; infer_instance) (fun hHeld => ?_)
          clear hK9 K9
          (try simp only [Act.put])
          refine wpAnyH_ready (rs := [11]) (by kernel_rfl) (by simp) ?_
          refine AllReadyH.cons (o := _) rfl (fun K9 hK9 => ?_) AllReadyH.nil
          go_simp
          refine hK9.out _ _ (by intro b _; infer_instance) (fun hHeld => ?_)
          clear hK9 K9
          (try simp only [Act.put])
          refine wpAnyH_take (i := 14) (oi := _) (v := ?_) rfl (by kernel_rfl) (by kernel_rfl) (by kernel_rfl) (fun _ _ _ h => h) (Or.inl ⟨by rfl, ?_⟩) (by assumption) ?_
          rotate_left 1
          · (intro wy hSw; (try dsimp only at hSw); go_simp; try with_reducible rfl)
          (try simp only [Act.put])
          refine wpAnyH_ready (rs := [15]) (by kernel_rfl) (by simp) ?_
          refine AllReadyH.cons (o := _) rfl (fun K9 hK9 => ?_) AllReadyH.nil
          go_simp
          refine hK9.out _ _ (by intro b _; infer_instance) (fun hHeld => ?_)
          clear hK9 K9
          (try simp only [Act.put])
          refine wpAnyH_done (by kernel_rfl) ?_ _
          go_wp2_with fail
          have lrz : Later wr z3 := ⟨below_of⟩
          have hbz : Below w.heap.size w z3 := hbr.trans (lrz.below.mono hbr.size)
          have hW := (blk_set (blk_set (B2' z3).1 0 (.int .i64 ep)) 1 (.slice QA q.length QC)).trans (by simp : _ = some (Obj.cells #[.int .i64 ep, .slice QA q.length QC] 34 (0, 0)))
          have r0 := blk_cell hW 0
          have r1 := blk_cell hW 1
          simp at r0 r1
          have hzz : w.heap.size < w5.heap.size := by omega
          have hoz := ((hoq.below lrz.below).set (p := ⟨w.heap.size, 0, none⟩) hzz (.int .i64 ep)).set (p := ⟨w.heap.size, 1, none⟩) hzz (.slice QA q.length QC)
          have hiz : InsOwn w5.heap.size ((z3.setCell ⟨w.heap.size, 0, none⟩ (.int .i64 ep)).setCell ⟨w.heap.size, 1, none⟩ (.slice QA q.length QC)) q := fun y hy => (((hiq y hy).below lrz.below).set (p := ⟨w.heap.size, 0, none⟩) hzz _).set (p := ⟨w.heap.size, 1, none⟩) hzz _
          refine bodyPost_ret (v := .tuple #[.agg #[.int .i64 ep, .slice QA q.length QC], .int .i64 0]) (by simp [results, Try.results28, go_sem, r0, r1]) rfl ?_
          exact ⟨ep, q, QA, QC, 0, hide (by rw [hd.out, Hqx.out]), rfl, hiz.sums (hoz.at_ SumE.enc).2.2, (hbz.setCell (p := ⟨w.heap.size, 0, none⟩) (Nat.le_refl _) _).setCell (p := ⟨w.heap.size, 1, none⟩) (Nat.le_refl _) _⟩
      · have he' : (ee != 0) = true := by simpa using he
        have hd := hide (show decS b = (0, [], 11) by unfold decS; rw [hEX.out.1]; dsimp only; rw [if_neg (fun h => he (hee.trans h.1))])
        clear hee hV
        go_upto_region 20 with fail
        (refine wp_region_after (by kernel_rfl) (by kernel_rfl) ?_
         repeat (any_goals (first | go_big_quiet_skip | (go_big_quiet_want; go_big_quiet_op; first | go_big_quiet_on | go_big_quiet_call ((go_at_call 57; exact Calls.after (HDD _)))) | quiet_step ((go_at_call 57; exact Calls.after (HDD _))) | (refine wpQuiet_step (fun K hK => ?_); go_simp; split <;> (refine hK _ ?_; clear hK K))))
         all_goals (refine wpQuiet_nil ?_; intro _ hw'; obtain ⟨u', hw''⟩ := hw'; subst hw''; obtain ⟨wd, hbd⟩ := u'; simp only [After.val_mk]))
        have ld := later hbd
        go_wp2_with fail
        have lrz : Later wr wd := ⟨below_of⟩
        have hbz : Below w.heap.size w wd := hbr.trans (lrz.below.mono hbr.size)
        have hW := (blk_set (blk_set (B2' wd).1 0 (.int .i64 0)) 1 (.slice none 0 0)).trans (by simp : _ = some (Obj.cells #[.int .i64 0, .slice none 0 0] 34 (0, 0)))
        have r0 := blk_cell hW 0
        have r1 := blk_cell hW 1
        simp at r0 r1
        refine bodyPost_ret (v := .tuple #[.agg #[.int .i64 0, .slice none 0 0], .int .i64 11]) (by simp [results, Try.results28, go_sem, r0, r1]) rfl ?_
        exact ⟨0, [], none, 0, 11, hide (by rw [hd.out]; rfl), rfl, ⟨SlAt.nil, (fun y hy => by cases hy), (fun y hy => by cases hy)⟩, (hbz.setCell (p := ⟨w.heap.size, 0, none⟩) (Nat.le_refl _) _).setCell (p := ⟨w.heap.size, 1, none⟩) (Nat.le_refl _) _⟩
end Go.Proofs.Ytomgdkfoinojiaa

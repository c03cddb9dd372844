/-
  Contracts of the functions of this seat that each theorem names: what a call returns, and that it writes nothing that was there before. The conditions stand in each theorem.
-/
import Derived.Test.YtomgdkfoinojiaaGrpC
import Derived.Test.YtomgdkfoinojiaaS32Valid
import Derived.Test.YtomgdkfoinojiaaS32Lib
set_option linter.unusedSimpArgs false
set_option linter.unusedVariables false
namespace Go.Proofs.Ytomgdkfoinojiaa
open Go.RowKit
attribute [local simp] heap_drew
def encIn (y : InsetE) : List Int := uintL y.client ++ uintL y.number ++ uintL y.out
def encSh (x : SumC) : List Int := uintL x.owner ++ uintL x.number ++ boolL x.rooted ++ uintL x.distance ++ uintL (x.inset.length : Int)
def encSu (x : SumC) : List Int := encSh x ++ x.inset.flatMap encIn
def encS (ep : Int) (l : List SumC) : List Int := uintL ep ++ uintL (l.length : Int) ++ l.flatMap encSu
theorem flat_take32 {α : Type} {f : α → List Int} {es : List α} {k : Nat} {x : α} (hx : es[k]? = some x) : (es.take (k + 1)).flatMap f = (es.take k).flatMap f ++ f x := by
  rw [take_snoc_get hx, List.flatMap_append]; simp
structure SumC.Rng (x : SumC) : Prop where
  n0 : 0 ≤ x.number
  n1 : x.number < 18446744073709551616
  y : ∀ y ∈ x.inset, 0 ≤ y.number ∧ y.number < 18446744073709551616 ∧ y.out < 9223372036854775808
theorem okIn_of {il : List InsetE} (h : insOk il = true) {m : Nat} {y : InsetE} (hy : il[m]? = some y) : 1 ≤ y.client ∧ y.client ≤ 8 ∧ 0 ≤ y.out := by
  have h1 := List.all_eq_true.1 h m (List.mem_range.2 (List.getElem?_eq_some_iff.1 hy).1)
  unfold okIn at h1
  rw [hy] at h1
  dsimp only at h1
  rw [Bool.and_eq_true, Bool.and_eq_true] at h1
  have h2 := h1.1.1
  unfold machB at h2
  rw [Bool.and_eq_true, decide_eq_true_eq, decide_eq_true_eq] at h2
  exact ⟨h2.1, h2.2, of_decide_eq_true h1.1.2⟩
theorem okS_of {x : SumC} (h : okS x = true) : 1 ≤ x.owner ∧ x.owner ≤ 8 ∧ 1 ≤ x.distance ∧ x.distance ≤ 1048576 ∧ x.inset.length ≤ 1024 ∧ insOk x.inset = true := by
  unfold okS machB at h
  simp only [Bool.and_eq_true, decide_eq_true_eq] at h
  exact ⟨h.1.1.1.1.1.1, h.1.1.1.1.1.2, h.1.1.1.1.2, h.1.1.1.2, h.1.2, h.2⟩
theorem validS_of {ep : Int} {l : List SumC} (h : validS ep l = true) : 0 ≤ ep ∧ l.length ≤ 1024 ∧ ∀ (k : Nat) (x : SumC), l[k]? = some x → okS x = true := by
  unfold validS at h
  rw [Bool.and_eq_true, Bool.and_eq_true, decide_eq_true_eq, decide_eq_true_eq] at h
  refine ⟨h.1.1, h.1.2, fun k x hx => ?_⟩
  have h1 := List.all_eq_true.1 h.2 k (List.mem_range.2 (List.getElem?_eq_some_iff.1 hx).1)
  unfold okAt at h1
  rw [hx] at h1
  dsimp only at h1
  rw [Bool.and_eq_true] at h1
  exact h1.1
set_option maxRecDepth 100000 in
set_option maxHeartbeats 16000000 in
theorem encode_any (ep : Int) (A : Option Addr) (c : Nat) (l : List SumE) (w : World) (H : SumsAt w A l) (hl : l.length ≤ 9223372036854775807) (hil : ∀ x ∈ l, x.inset.length ≤ 9223372036854775807) (hep : ep < 9223372036854775808) (hr : ∀ x ∈ l, x.con.Rng) :
    Calls Try.prog 29 #[.agg #[.int .i64 ep, .slice A l.length c]] w fun r w' => ∃ q B d, Hid (q = if validS ep (l.map SumE.con) then encS ep (l.map SumE.con) else []) ∧ r = .returned (.slice B q.length d) ∧ SlAt U8.cells 1 w' B q ∧ Below w.heap.size w w' := by
  have HL := H.later
  have HV : ∀ u [Later w u], Calls Try.prog 22 #[.agg #[.int .i64 ep, .slice A l.length c]] u fun r w' => r = .returned (.bool (validS ep (l.map SumE.con))) ∧ Below u.heap.size u w' := fun u i => valid_any ep A c l u (HL u) hl hil
  obtain ⟨E, hE⟩ : ∃ E : List Int, E = if validS ep (l.map SumE.con) then encS ep (l.map SumE.con) else [] := ⟨_, rfl⟩
  rw [← hE]
  obtain ⟨V, hV⟩ : ∃ V, V = validS ep (l.map SumE.con) := ⟨_, rfl⟩
  rw [← hV] at HV hE
  have HE := hide hE
  have HVV := hide hV
  clear hE hV
  go_enter Try.func29, Try.ntmps29
  go_upto_region 1 with fail
  refine wp_name ?_
  intro w0 hw0
  obtain ⟨B0, l0⟩ := box1 hw0
  clear hw0
  have l00 : Later w0 w0 := Later.refl
  cases V
  · go_wp2_with (go_at_call 22; refine (HV _).mono ?_; rintro r w1 ⟨rfl, hb1⟩; have l1 := later hb1)
    go_ret
    exact ⟨[], none, 0, hide HE.out.symm, rfl, SlAt.nil, below_of⟩
  obtain ⟨he0, hl10, hok⟩ := validS_of HVV.out.symm
  rw [List.length_map] at hl10
  have Hok := hide hok
  have he64 : ep % 18446744073709551616 = ep := by omega
  have hl64 : (l.length : Int) % 18446744073709551616 = (l.length : Int) := by omega
  clear hok
  go_upto_region 3 with (go_at_call 22; refine (HV _).mono ?_; rintro r w1 ⟨rfl, hb1⟩; have l1 := later hb1)
  have l11 : Later w1 w1 := Later.refl
  have hB1 : Below w0.heap.size w0 w1 := below_of
  go_upto_region 4 with (go_at_call 58; refine (appendUint_q ep (l := []) (base := w0.heap.size) Own.nil (by simp) hB1.size (by omega) (by omega)).mono ?_; rintro r w2 ⟨q2, A2, c2, hq2, rfl, ho2, hb2, hs2⟩)
  have hB2 : Below w0.heap.size w0 w2 := hB1.trans hb2
  have hn2 := hide (show q2.length ≤ 9 by rw [hq2.out]; have := uintL_len (n := ep) (by omega); simpa using this)
  have l2 := later hB2
  have l22 : Later w2 w2 := Later.refl
  go_upto_region 5 with (go_at_call 58; refine (appendUint_q (l.length : Int) (l := q2) ho2 (by have := hn2.out; omega) hB2.size (by omega) (by omega)).mono ?_; rintro r w3 ⟨q3, A3, c3, hq3, rfl, ho3, hb3, hs3⟩)
  have hB3 : Below w0.heap.size w0 w3 := hB2.trans hb3
  have hn3 := hide (show q3.length ≤ 18 by have h1 := uintL_len (n := (l.length : Int)) (by omega); have h2 := hn2.out; rw [hq3.out, List.length_append]; omega)
  have Hq3 := hide (show q3 = uintL ep ++ uintL (l.length : Int) by rw [hq3.out, hq2.out]; rfl)
  have l3 := later hB3
  have l33 : Later w3 w3 := Later.refl
  clear hq2 hq3 ho2 hs2 hs3 hb2 hb3 hn2 HV
  go_wp2_with fail
  go_loopw [3, 24] (fun v iv wr => ∃ (k : Nat) (q0 : List Int) (A0 : Option Addr) (c0 : Nat), k ≤ l.length ∧ v = .slice A0 q0.length c0 ∧ iv = .int .i64 k ∧ Hid (q0 = uintL ep ++ uintL (l.length : Int) ++ (l.take k).flatMap (fun x => encSu x.con)) ∧ Hid (q0.length ≤ 18 + 30000 * k) ∧ Own U8.cells 1 5 w0.heap.size wr (.slice A0 q0.length c0) q0 ∧ Below w0.heap.size w0 wr) (fun _ iv _ => l.length - (intOf iv).toNat)
  case atStart => exact ⟨0, q3, A3, c3, by omega, rfl, rfl, hide (by rw [Hq3.out]; simp), hide (by have := hn3.out; omega), ho3, hB3⟩
  case round =>
    obtain ⟨k, q0, A0, c0, hk, rfl, rfl, hq0, hn0, ho0, hbr⟩ := hrel
    have lr := later hbr
    have lrr : Later wr wr := Later.refl
    by_cases hlt : k < l.length
    · have hki : (k : Int) < (l.length : Int) := by omega
      obtain ⟨b1, o1, x, rfl, hx, C1, F1, hx1, hx2⟩ := (HL wr).get hlt
      have HT := hide (flat_take32 (f := fun x : SumE => encSu x.con) hx)
      have hxr := hr x (List.mem_of_getElem? hx)
      have hxo := okS_of (Hok.out k _ (conS_get hx))
      have FI : ∀ u [Later w u], SlAt InsetE.cells 3 u x.A x.inset := fun u i => (H.f x (List.mem_of_getElem? hx)).below i.below
      clear hx
      obtain ⟨xo, xn, xr, xd, xA, xc, xi⟩ := x
      obtain ⟨hxn0, hxn1, hxy⟩ := hxr
      dsimp only [SumE.con] at C1 F1 FI hx1 hx2 hxo hxn0 hxn1 hxy
      obtain ⟨p1, p2, p3, p4, p5, p6⟩ := hxo
      have Hxy := hide hxy
      have Hp6 := hide p6
      have e1 : xo % 18446744073709551616 = xo := by omega
      have e2 : xd % 18446744073709551616 = xd := by omega
      have e3 : (xi.length : Int) % 18446744073709551616 = (xi.length : Int) := by omega
      clear hxy p6
      go_upto_region 8 with fail
      refine wp_name ?_
      intro w4 hw4
      obtain ⟨B5, l4⟩ := box1 hw4
      clear hw4
      have l44 : Later w4 w4 := Later.refl
      have ho4 := ho0.below (l4 wr).below
      have hB4 : Below w0.heap.size w0 w4 := hbr.trans ((l4 wr).below.mono hbr.size)
      have hz4 := hB4.size
      have hk4 := (B5 w4).1
      obtain ⟨q4, hq4⟩ : ∃ q, q = q0 := ⟨_, rfl⟩
      obtain ⟨Bd, hBd⟩ : ∃ Bd, Bd = 18 + 30000 * k := ⟨_, rfl⟩
      have hBm : Bd ≤ 40000000 := by omega
      have hn4 := hide (show q4.length ≤ Bd by rw [hq4, hBd]; exact hn0.out)
      have HBd := hide hBd
      clear hBd
      rw [← hq4] at ho4
      have Hq4 := hide hq4
      rw [← hq4]
      clear hq4 ho0 hn0
      go_upto_region 9 with (go_at_call 58; refine (appendUint_q xo (l := q4) ho4 (by have := hn4.out; omega) hz4 (by omega) (by omega)).mono ?_; rintro r w5 ⟨q5, A5, c5, hq5, rfl, ho5, hb5, hs5⟩)
      have hk5 := heap_grownOwn ho4 hs5.1 hk4 (by decide)
      have hB5 : Below w0.heap.size w0 w5 := hB4.trans hb5
      have hz5 : w0.heap.size ≤ w5.heap.size := hB5.size
      have hn5 := hide (show q5.length ≤ Bd + 9 by have h1 := (uintL_len (n := xo) (by omega)); have h2 := hn4.out; rw [hq5.out, List.length_append]; omega)
      have BX := boxed hk5
      have lX := later hB5
      have lXX : Later w5 w5 := Later.refl
      clear hs5 hb5
      go_upto_region 10 with (go_at_call 58; refine (appendUint_q xn (l := q5) ho5 (by have := hn5.out; omega) hz5 (by omega) (by omega)).mono ?_; rintro r w6 ⟨q6, A6, c6, hq6, rfl, ho6, hb6, hs6⟩)
      have hk6 := heap_grownOwn ho5 hs6.1 hk5 (by decide)
      have hB6 : Below w0.heap.size w0 w6 := hB5.trans hb6
      have hz6 : w0.heap.size ≤ w6.heap.size := hB6.size
      have hn6 := hide (show q6.length ≤ Bd + 18 by have h1 := (uintL_len (n := xn) (by omega)); have h2 := hn5.out; rw [hq6.out, List.length_append]; omega)
      have BX := boxed hk6
      have lX := later hB6
      have lXX : Later w6 w6 := Later.refl
      clear hs6 hb6
      go_upto_region 11 with (go_at_call 59; refine (appendBool_q xr (l := q6) ho6 (by have := hn6.out; omega) hz6).mono ?_; rintro r w7 ⟨q7, A7, c7, hq7, rfl, ho7, hb7, hs7⟩)
      have hk7 := heap_grownOwn ho6 hs7.1 hk6 (by decide)
      have hB7 : Below w0.heap.size w0 w7 := hB6.trans hb7
      have hz7 : w0.heap.size ≤ w7.heap.size := hB7.size
      have hn7 := hide (show q7.length ≤ Bd + 27 by have h1 := (show (boolL xr).length ≤ 9 by simp [boolL]); have h2 := hn6.out; rw [hq7.out, List.length_append]; omega)
      have BX := boxed hk7
      have lX := later hB7
      have lXX : Later w7 w7 := Later.refl
      clear hs7 hb7
      go_upto_region 12 with (go_at_call 58; refine (appendUint_q xd (l := q7) ho7 (by have := hn7.out; omega) hz7 (by omega) (by omega)).mono ?_; rintro r w8 ⟨q8, A8, c8, hq8, rfl, ho8, hb8, hs8⟩)
      have hk8 := heap_grownOwn ho7 hs8.1 hk7 (by decide)
      have hB8 : Below w0.heap.size w0 w8 := hB7.trans hb8
      have hz8 : w0.heap.size ≤ w8.heap.size := hB8.size
      have hn8 := hide (show q8.length ≤ Bd + 36 by have h1 := (uintL_len (n := xd) (by omega)); have h2 := hn7.out; rw [hq8.out, List.length_append]; omega)
      have BX := boxed hk8
      have lX := later hB8
      have lXX : Later w8 w8 := Later.refl
      clear hs8 hb8
      go_upto_region 13 with (go_at_call 58; refine (appendUint_q (xi.length : Int) (l := q8) ho8 (by have := hn8.out; omega) hz8 (by omega) (by omega)).mono ?_; rintro r w9 ⟨q9, A9, c9, hq9, rfl, ho9, hb9, hs9⟩)
      have hk9 := heap_grownOwn ho8 hs9.1 hk8 (by decide)
      have hB9 : Below w0.heap.size w0 w9 := hB8.trans hb9
      have hz9 : w0.heap.size ≤ w9.heap.size := hB9.size
      have hn9 := hide (show q9.length ≤ Bd + 45 by have h1 := (uintL_len (n := (xi.length : Int)) (by omega)); have h2 := hn8.out; rw [hq9.out, List.length_append]; omega)
      have BX := boxed hk9
      have lX := later hB9
      have lXX : Later w9 w9 := Later.refl
      clear hs9 hb9
      have Hq9 := hide (show q9 = q0 ++ encSh ⟨xo, xn, xr, xd, xi⟩ by rw [hq9.out, hq8.out, hq7.out, hq6.out, hq5.out, Hq4.out]; simp only [encSh, List.append_assoc])
      clear hq5 hq6 hq7 hq8 hq9 hk4 hk5 hk6 hk7 hk8 ho4 ho5 ho6 ho7 ho8 hn4 hn5 hn6 hn7 hn8 hB4 hB5 hB6 hB7 hB8
      have hx1l : xi.length ≤ 9223372036854775807 := by omega
      go_wp2_with fail
      go_loopw [3, 55] (fun v iv wr => ∃ (m : Nat) (q1 : List Int) (A1 : Option Addr) (c1 : Nat), m ≤ xi.length ∧ v = .slice A1 q1.length c1 ∧ iv = .int .i64 m ∧ Hid (q1 = q9 ++ (xi.take m).flatMap encIn) ∧ Hid (q1.length ≤ Bd + 45 + 27 * m) ∧ Own U8.cells 1 5 w0.heap.size wr (.slice A1 q1.length c1) q1 ∧ Below w0.heap.size w0 wr) (fun _ iv _ => xi.length - (intOf iv).toNat)
      case atStart => exact ⟨0, q9, A9, c9, by omega, rfl, rfl, hide (by simp), hide (by have := hn9.out; omega), ho9, hB9⟩
      case round =>
        obtain ⟨m, q1, A1, c1, hm, rfl, rfl, hq1, hn1, ho1, hbm⟩ := hrel
        have lm := later hbm
        have lmm : Later wr wr := Later.refl
        by_cases hml : m < xi.length
        · have hmi : (m : Int) < (xi.length : Int) := by omega
          obtain ⟨b2, o2, y, rfl, hy, C2⟩ := InsetE.get (FI wr) hml
          have HU := hide (flat_take32 (f := encIn) hy)
          have hyo := okIn_of Hp6.out hy
          have hyr := Hxy.out y (List.mem_of_getElem? hy)
          clear hy
          obtain ⟨yc, yn, yo⟩ := y
          dsimp only at hyo hyr
          obtain ⟨g1, g2, g3⟩ := hyo
          obtain ⟨g4, g5, g6⟩ := hyr
          have f1 : yc % 18446744073709551616 = yc := by omega
          have f2 : yo % 18446744073709551616 = yo := by omega
          go_upto_region 16 with fail
          refine wp_name ?_
          intro w10 hw10
          obtain ⟨B7, l10⟩ := box1 hw10
          clear hw10
          have l1010 : Later w10 w10 := Later.refl
          have ho10 := ho1.below (l10 wr).below
          have hB10 : Below w0.heap.size w0 w10 := hbm.trans ((l10 wr).below.mono hbm.size)
          have hz10 := hB10.size
          have hk10 := (B7 w10).1
          obtain ⟨q10, hq10⟩ : ∃ q, q = q1 := ⟨_, rfl⟩
          obtain ⟨Be, hBe⟩ : ∃ Be, Be = Bd + 45 + 27 * m := ⟨_, rfl⟩
          have hBem : Be ≤ 50000000 := by omega
          have hn10 := hide (show q10.length ≤ Be by rw [hq10, hBe]; exact hn1.out)
          have HBe := hide hBe
          rw [← hq10] at ho10
          have Hq10 := hide hq10
          rw [← hq10]
          clear hq10 ho1 hn1 hBe
          go_upto_region 17 with (go_at_call 58; refine (appendUint_q yc (l := q10) ho10 (by have := hn10.out; omega) hz10 (by omega) (by omega)).mono ?_; rintro r w11 ⟨q11, A11, c11, hq11, rfl, ho11, hb11, hs11⟩)
          have hk11 := heap_grownOwn ho10 hs11.1 hk10 (by decide)
          have hB11 : Below w0.heap.size w0 w11 := hB10.trans hb11
          have hz11 : w0.heap.size ≤ w11.heap.size := hB11.size
          have hn11 := hide (show q11.length ≤ Be + 9 by have h1 := (uintL_len (n := yc) (by omega)); have h2 := hn10.out; rw [hq11.out, List.length_append]; omega)
          have BX := boxed hk11
          have lX := later hB11
          have lXX : Later w11 w11 := Later.refl
          clear hs11 hb11
          go_upto_region 18 with (go_at_call 58; refine (appendUint_q yn (l := q11) ho11 (by have := hn11.out; omega) hz11 (by omega) (by omega)).mono ?_; rintro r w12 ⟨q12, A12, c12, hq12, rfl, ho12, hb12, hs12⟩)
          have hk12 := heap_grownOwn ho11 hs12.1 hk11 (by decide)
          have hB12 : Below w0.heap.size w0 w12 := hB11.trans hb12
          have hz12 : w0.heap.size ≤ w12.heap.size := hB12.size
          have hn12 := hide (show q12.length ≤ Be + 18 by have h1 := (uintL_len (n := yn) (by omega)); have h2 := hn11.out; rw [hq12.out, List.length_append]; omega)
          have BX := boxed hk12
          have lX := later hB12
          have lXX : Later w12 w12 := Later.refl
          clear hs12 hb12
          go_upto_region 19 with (go_at_call 58; refine (appendUint_q yo (l := q12) ho12 (by have := hn12.out; omega) hz12 (by omega) (by omega)).mono ?_; rintro r w13 ⟨q13, A13, c13, hq13, rfl, ho13, hb13, hs13⟩)
          have hk13 := heap_grownOwn ho12 hs13.1 hk12 (by decide)
          have hB13 : Below w0.heap.size w0 w13 := hB12.trans hb13
          have hz13 : w0.heap.size ≤ w13.heap.size := hB13.size
          have hn13 := hide (show q13.length ≤ Be + 27 by have h1 := (uintL_len (n := yo) (by omega)); have h2 := hn12.out; rw [hq13.out, List.length_append]; omega)
          have BX := boxed hk13
          have lX := later hB13
          have lXX : Later w13 w13 := Later.refl
          clear hs13 hb13
          go_wp2_with fail
          go_roundw
          case rel => exact ⟨m + 1, q13, A13, c13, by omega, rfl, by go_num, hide (by rw [hq13.out, hq12.out, hq11.out, Hq10.out, hq1.out, HU.out]; simp only [encIn, List.append_assoc]), hide (by have h1 := hn13.out; have h2 := HBe.out; omega), ho13, hB13⟩
          case measure => simp [intOf]; omega
        · have hmm : m = xi.length := by omega
          subst hmm
          go_wp2_with fail
          go_roundw
          case rel => exact ⟨k + 1, q1, A1, c1, by omega, rfl, by go_num, hide (by rw [hq1.out, List.take_length, Hq9.out, hq0.out, HT.out]; simp only [encSu, SumE.con, List.append_assoc]), hide (by have h1 := hn1.out; have h2 := HBd.out; omega), ho1, hbm⟩
          case measure => simp [intOf]; omega
    · have hkk : k = l.length := by omega
      subst hkk
      go_wp2_with fail
      go_ret
      refine ⟨q0, A0, c0, hide ?_, rfl, (ho0.at_ U8.enc).2.2, below_of⟩
      rw [HE.out]
      simp only [if_true]
      rw [hq0.out, List.take_length]
      unfold encS
      rw [List.length_map, List.flatMap_map]
end Go.Proofs.Ytomgdkfoinojiaa

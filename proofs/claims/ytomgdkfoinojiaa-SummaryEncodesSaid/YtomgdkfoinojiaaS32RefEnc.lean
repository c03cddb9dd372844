/-
  Contracts of the functions of this seat that each theorem names: what a call returns, and that it writes nothing that was there before. The conditions stand in each theorem.
-/
import Derived.Test.YtomgdkfoinojiaaWireRef
import Derived.Test.YtomgdkfoinojiaaS32Enc
import Derived.Test.YtomgdkfoinojiaaGrpP
set_option linter.unusedSimpArgs false
set_option linter.unusedVariables false
namespace Go.Proofs.Ytomgdkfoinojiaa
open Go.RowKit
attribute [local simp] heap_drew
theorem refUint_x (A : Option Addr) (c : Nat) (l : List Int) (n v : Int) (w : World) (hv : v = n) (hs : SlAt U8.cells 1 w A l) (hl : l.length ≤ 1000000000) (h0 : 0 ≤ n) (h1 : n < 18446744073709551616) :
    Calls Try.prog 61 #[.slice A l.length c, .int .u64 v] w (BPost (l ++ uintL n) w) := by
  subst hv
  exact refUint_any A c l v w hs hl h0 h1
set_option maxRecDepth 100000 in
set_option maxHeartbeats 16000000 in
theorem refEncode_any (ep : Int) (A : Option Addr) (c : Nat) (l : List SumE) (w : World) (H : SumsAt w A l) (hl : l.length ≤ 9223372036854775807) (hil : ∀ x ∈ l, x.inset.length ≤ 9223372036854775807) (hep : ep < 9223372036854775808) (hr : ∀ x ∈ l, x.con.Rng) :
    Calls Try.prog 31 #[.agg #[.int .i64 ep, .slice A l.length c]] w fun r w' => ∃ q B d, Hid (q = if validS ep (l.map SumE.con) then encS ep (l.map SumE.con) else []) ∧ r = .returned (.slice B q.length d) ∧ SlAt U8.cells 1 w' B q ∧ Below w.heap.size w w' := by
  have HL := H.later
  have HV : ∀ u [Later w u], Calls Try.prog 30 #[.agg #[.int .i64 ep, .slice A l.length c]] u fun r w' => r = .returned (.bool (validS ep (l.map SumE.con))) ∧ Below u.heap.size u w' := fun u i => refValid_any ep A c l u (HL u) hl hil
  obtain ⟨E, hE⟩ : ∃ E : List Int, E = if validS ep (l.map SumE.con) then encS ep (l.map SumE.con) else [] := ⟨_, rfl⟩
  rw [← hE]
  obtain ⟨V, hV⟩ : ∃ V, V = validS ep (l.map SumE.con) := ⟨_, rfl⟩
  rw [← hV] at HV hE
  have HE := hide hE
  have HVV := hide hV
  clear hE hV
  go_enter Try.func31, Try.ntmps31
  go_upto_region 1 with fail
  refine wp_name ?_
  intro w0 hw0
  obtain ⟨B0, l0⟩ := box1 hw0
  clear hw0
  have l00 : Later w0 w0 := Later.refl
  cases V
  · go_wp2_with (go_at_call 30; refine (HV _).mono ?_; rintro r w1 ⟨rfl, hb1⟩; have l1 := later hb1)
    go_ret
    exact ⟨[], none, 0, hide HE.out.symm, rfl, SlAt.nil, below_of⟩
  obtain ⟨he0, hl10, hok⟩ := validS_of HVV.out.symm
  rw [List.length_map] at hl10
  have Hok := hide hok
  have he64 : ep % 18446744073709551616 = ep := by omega
  have hl64 : (l.length : Int) % 18446744073709551616 = (l.length : Int) := by omega
  clear hok
  go_upto_region 3 with (go_at_call 30; refine (HV _).mono ?_; rintro r w1 ⟨rfl, hb1⟩; have l1 := later hb1)
  have l11 : Later w1 w1 := Later.refl
  clear HV
  go_region_held3 (fun w' => ∀ b [Later b w1], Later b w') ((intro b _; infer_instance))
    ((first
      | (go_at_call 61; refine (refUint_x A2 c2 q2 (l.length : Int) _ _ (by first | rfl | (rw [IntKind.wrap_u64]; omega)) (S2.later _) (by omega) (by omega) (by omega)).mono ?_; intro r w3 hh3; obtain ⟨q3, A3, c3, hq3, rfl, S3, hb3⟩ := hh3; have l3 := later hb3; have l33 : Later w3 w3 := Later.refl)
      | (go_at_call 61; refine (refUint_x none 0 [] ep _ _ (by first | rfl | (rw [IntKind.wrap_u64]; omega)) SlAt.nil (by simp) (by omega) (by omega)).mono ?_; intro r w2 hh2; obtain ⟨q2, A2, c2, hq2, rfl, S2, hb2⟩ := hh2; have l2 := later hb2; have l22 : Later w2 w2 := Later.refl; have hn2 : q2.length ≤ 9 := by (rw [hq2.out]; have := uintL_len (n := ep) (by omega); simpa using this))))
  have hn3 : q3.length ≤ 18 := by have h1 := uintL_len (n := (l.length : Int)) (by omega); rw [hq3.out, List.length_append]; omega
  have Hq3 := hide (show q3 = uintL ep ++ uintL (l.length : Int) by rw [hq3.out, hq2.out]; rfl)
  have hB3 : Below w0.heap.size w0 w3 := below_of
  have hl64' : l.length ≤ 9223372036854775807 := hl
  clear hq2 hq3 S2 hn2
  go_wp2_with fail
  go_loopw [3, 4] (fun v iv wr => ∃ (k : Nat) (q0 : List Int) (A0 : Option Addr) (c0 : Nat), k ≤ l.length ∧ v = .slice A0 q0.length c0 ∧ iv = .int .i64 k ∧ Hid (q0 = uintL ep ++ uintL (l.length : Int) ++ (l.take k).flatMap (fun x => encSu x.con)) ∧ Hid (q0.length ≤ 18 + 30000 * k) ∧ SlAt U8.cells 1 wr A0 q0 ∧ Below w0.heap.size w0 wr) (fun _ iv _ => l.length - (intOf iv).toNat)
  case atStart => exact ⟨0, q3, A3, c3, by omega, rfl, rfl, hide (by rw [Hq3.out]; simp), hide (by omega), S3, hB3⟩
  case round =>
    obtain ⟨k, q0, A0, c0, hk, rfl, rfl, hq0, hn0, S0, hbr⟩ := hrel
    have lr := later hbr
    have lrr : Later wr wr := Later.refl
    by_cases hlt : k < l.length
    · have hki : (k : Int) < (l.length : Int) := by omega
      obtain ⟨b1, o1, x, rfl, hx, C1, F1, hx1, hx2⟩ := (HL wr).get hlt
      have HT := hide (flat_take32 (f := fun x : SumE => encSu x.con) hx)
      have hxr := hr x (List.mem_of_getElem? hx)
      have hxo := okS_of (Hok.out k _ (conS_get hx))
      clear hx
      obtain ⟨xo, xn, xr, xd, xA, xc, xi⟩ := x
      obtain ⟨hxn0, hxn1, hxy⟩ := hxr
      dsimp only [SumE.con] at C1 F1 hx1 hx2 hxo hxn0 hxn1 hxy
      obtain ⟨p1, p2, p3, p4, p5, p6⟩ := hxo
      have Hxy := hide hxy
      have Hp6 := hide p6
      have e1 : xo % 18446744073709551616 = xo := by omega
      have e2 : xd % 18446744073709551616 = xd := by omega
      have e3 : (xi.length : Int) % 18446744073709551616 = (xi.length : Int) := by omega
      obtain ⟨Bd, hBd⟩ : ∃ Bd, Bd = 18 + 30000 * k := ⟨_, rfl⟩
      have hBm : Bd ≤ 40000000 := by omega
      have hn0' : q0.length ≤ Bd := by rw [hBd]; exact hn0.out
      have HBd := hide hBd
      have hx1l : xi.length ≤ 9223372036854775807 := by omega
      clear hxy p6 hBd hn0
      go_upto_region 8 with fail
      refine wp_name ?_
      intro w4 hw4
      obtain ⟨B5, l4⟩ := box1 hw4
      clear hw4
      have l44 : Later w4 w4 := Later.refl
      go_region_held3 (fun w' => ∀ b [Later b w4], Later b w') ((intro b _; infer_instance))
        ((first
          | (go_at_call 62; refine (refBool_any A6 c6 q6 xr _ (S6.later _) (by omega)).mono ?_; intro r w7 hh; obtain ⟨q7, A7, c7, hq7, rfl, S7, hb7⟩ := hh; have l7 := later hb7; have l77 : Later w7 w7 := Later.refl; have hn7 : q7.length ≤ Bd + 27 := by (rw [hq7.out, List.length_append]; simp only [boolL, List.length_singleton]; omega))
          | (go_at_call 61; refine (refUint_x A5 c5 q5 (xn) _ _ (by first | rfl | (rw [IntKind.wrap_u64]; omega)) (S5.later _) (by omega) (by omega) (by omega)).mono ?_; intro r w6 hh; obtain ⟨q6, A6, c6, hq6, rfl, S6, hb6⟩ := hh; have l6 := later hb6; have l66 : Later w6 w6 := Later.refl; have hn6 : q6.length ≤ Bd + 18 := by (have h1 := uintL_len (n := (xn)) (by omega); rw [hq6.out, List.length_append]; omega))
          | (go_at_call 61; refine (refUint_x A0 c0 q0 (xo) _ _ (by first | rfl | (rw [IntKind.wrap_u64]; omega)) (S0.later _) (by omega) (by omega) (by omega)).mono ?_; intro r w5 hh; obtain ⟨q5, A5, c5, hq5, rfl, S5, hb5⟩ := hh; have l5 := later hb5; have l55 : Later w5 w5 := Later.refl; have hn5 : q5.length ≤ Bd + 9 := by (have h1 := uintL_len (n := (xo)) (by omega); rw [hq5.out, List.length_append]; omega))))
      go_upto_region 9 with fail
      go_region_held3 (fun w' => ∀ b [Later b w7], Later b w') ((intro b _; infer_instance))
        ((first
          | (go_at_call 61; refine (refUint_x A8 c8 q8 ((xi.length : Int)) _ _ (by first | rfl | (rw [IntKind.wrap_u64]; omega)) (S8.later _) (by omega) (by omega) (by omega)).mono ?_; intro r w9 hh; obtain ⟨q9, A9, c9, hq9, rfl, S9, hb9⟩ := hh; have l9 := later hb9; have l99 : Later w9 w9 := Later.refl; have hn9 : q9.length ≤ Bd + 45 := by (have h1 := uintL_len (n := ((xi.length : Int))) (by omega); rw [hq9.out, List.length_append]; omega))
          | (go_at_call 61; refine (refUint_x A7 c7 q7 (xd) _ _ (by first | rfl | (rw [IntKind.wrap_u64]; omega)) (S7.later _) (by omega) (by omega) (by omega)).mono ?_; intro r w8 hh; obtain ⟨q8, A8, c8, hq8, rfl, S8, hb8⟩ := hh; have l8 := later hb8; have l88 : Later w8 w8 := Later.refl; have hn8 : q8.length ≤ Bd + 36 := by (have h1 := uintL_len (n := (xd)) (by omega); rw [hq8.out, List.length_append]; omega))))
      have Hq9 := hide (show q9 = q0 ++ encSh ⟨xo, xn, xr, xd, xi⟩ by rw [hq9.out, hq8.out, hq7.out, hq6.out, hq5.out]; simp only [encSh, List.append_assoc])
      have hB9 : Below w0.heap.size w0 w9 := below_of
      clear hq5 hq6 hq7 hq8 hq9 S0 S5 S6 S7 S8
      go_wp2_with fail
      go_loopw [3, 6] (fun v iv wr => ∃ (m : Nat) (q1 : List Int) (A1 : Option Addr) (c1 : Nat), m ≤ xi.length ∧ v = .slice A1 q1.length c1 ∧ iv = .int .i64 m ∧ Hid (q1 = q9 ++ (xi.take m).flatMap encIn) ∧ Hid (q1.length ≤ Bd + 45 + 27 * m) ∧ SlAt U8.cells 1 wr A1 q1 ∧ Below w9.heap.size w9 wr) (fun _ iv _ => xi.length - (intOf iv).toNat)
      case atStart => exact ⟨0, q9, A9, c9, by omega, rfl, rfl, hide (by simp), hide (by omega), S9, Below.refl _ _⟩
      case round =>
        obtain ⟨m, q1, A1, c1, hm, rfl, rfl, hq1, hn1, S1, hbm⟩ := hrel
        have lm := later hbm
        have lmm : Later wr wr := Later.refl
        by_cases hml : m < xi.length
        · have hmi : (m : Int) < (xi.length : Int) := by omega
          obtain ⟨b2, o2, y, rfl, hy, C2⟩ := InsetE.get (F1 wr) hml
          have HU := hide (flat_take32 (f := encIn) hy)
          have hyo := okIn_of Hp6.out hy
          have hyr := Hxy.out y (List.mem_of_getElem? hy)
          clear hy
          obtain ⟨yc, yn, yo⟩ := y
          dsimp only at hyo hyr
          obtain ⟨g1, g2, g3⟩ := hyo
          obtain ⟨g4, g5, g6⟩ := hyr
          have f1 : yc % 18446744073709551616 = yc := by omega
          have f2 : yo % 18446744073709551616 = yo := by omega
          obtain ⟨Be, hBe⟩ : ∃ Be, Be = Bd + 45 + 27 * m := ⟨_, rfl⟩
          have hBem : Be ≤ 50000000 := by omega
          have hn1' : q1.length ≤ Be := by rw [hBe]; exact hn1.out
          have HBe := hide hBe
          clear hBe hn1
          go_upto_region 13 with fail
          go_region_held3 (fun w' => ∀ b [Later b wr], Later b w') ((intro b _; infer_instance))
            ((first
              | (go_at_call 61; refine (refUint_x A12 c12 q12 (yo) _ _ (by first | rfl | (rw [IntKind.wrap_u64]; omega)) (S12.later _) (by omega) (by omega) (by omega)).mono ?_; intro r w13 hh; obtain ⟨q13, A13, c13, hq13, rfl, S13, hb13⟩ := hh; have l13 := later hb13; have l1313 : Later w13 w13 := Later.refl; have hn13 : q13.length ≤ Be + 27 := by (have h1 := uintL_len (n := (yo)) (by omega); rw [hq13.out, List.length_append]; omega))
              | (go_at_call 61; refine (refUint_x A11 c11 q11 (yn) _ _ (by first | rfl | (rw [IntKind.wrap_u64]; omega)) (S11.later _) (by omega) (by omega) (by omega)).mono ?_; intro r w12 hh; obtain ⟨q12, A12, c12, hq12, rfl, S12, hb12⟩ := hh; have l12 := later hb12; have l1212 : Later w12 w12 := Later.refl; have hn12 : q12.length ≤ Be + 18 := by (have h1 := uintL_len (n := (yn)) (by omega); rw [hq12.out, List.length_append]; omega))
              | (go_at_call 61; refine (refUint_x A1 c1 q1 (yc) _ _ (by first | rfl | (rw [IntKind.wrap_u64]; omega)) (S1.later _) (by omega) (by omega) (by omega)).mono ?_; intro r w11 hh; obtain ⟨q11, A11, c11, hq11, rfl, S11, hb11⟩ := hh; have l11 := later hb11; have l1111 : Later w11 w11 := Later.refl; have hn11 : q11.length ≤ Be + 9 := by (have h1 := uintL_len (n := (yc)) (by omega); rw [hq11.out, List.length_append]; omega))))
          go_wp2_with fail
          go_roundw
          case rel => exact ⟨m + 1, q13, A13, c13, by omega, rfl, by go_num, hide (by rw [hq13.out, hq12.out, hq11.out, hq1.out, HU.out]; simp only [encIn, List.append_assoc]), hide (by have h2 := HBe.out; omega), S13, below_of⟩
          case measure => simp [intOf]; omega
        · have hmm : m = xi.length := by omega
          subst hmm
          have hBr : Below w0.heap.size w0 wr := hB9.trans (hbm.mono hB9.size)
          go_wp2_with fail
          go_roundw
          case rel => exact ⟨k + 1, q1, A1, c1, by omega, rfl, by go_num, hide (by rw [hq1.out, List.take_length, Hq9.out, hq0.out, HT.out]; simp only [encSu, SumE.con, List.append_assoc]), hide (by have h1 := hn1.out; have h2 := HBd.out; omega), S1, hBr⟩
          case measure => simp [intOf]; omega
    · have hkk : k = l.length := by omega
      subst hkk
      go_wp2_with fail
      go_ret
      refine ⟨q0, A0, c0, hide ?_, rfl, S0, below_of⟩
      rw [HE.out]
      simp only [if_true]
      rw [hq0.out, List.take_length]
      unfold encS
      rw [List.length_map, List.flatMap_map]
end Go.Proofs.Ytomgdkfoinojiaa

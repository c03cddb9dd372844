/-
  Contracts of the functions of this seat that each theorem names: what a call returns, and that it writes nothing that was there before. The conditions stand in each theorem.
-/
import Derived.Test.YtjegncmkebbdfaaGreatDoorGrp60
import Derived.Deep.CutRange
set_option linter.unusedSimpArgs false
set_option linter.unusedVariables false
namespace Go.Proofs.YtjegncmkebbdfaaGreatDoor
open Go.RowKit Go.Shelf Go.Lib Go.Sort
variable {P : Program} {α : Type} [Inhabited α]
set_option maxHeartbeats 16000000 in
set_option maxRecDepth 1000000 in
/-- Both runs are longer: the two halves are merged. -/
theorem symN_NodeE {k : Nat} (L : LaysNodeE P k) (enc : α → List Value) (cf : α → α → Int) (O : SWO (Go.Proofs.ltOf cf)) (g : Nat) (cb : Array Value) (blk off cap : Nat) (d0 : Array α) (w0 : World) (eg : ∀ args w, (callFunc g args).run P w = .ok (.enter g args) w) (hcmp : CmpLays P g cb enc k cf blk off d0.size w0) (R : RowK enc k w0 blk off d0) (N : Nat)
    (IH : ∀ (a m b : Nat) (d : Array α) (w : World) (A X Y Q : List α), b - a ≤ N → d0.size = d.size → SWK enc k w0 blk off d w → d.toList = A ++ (X ++ (Y ++ Q)) → A.length = a → a + X.length = m → m + Y.length = b → 0 < X.length → 0 < Y.length → Srt (Go.Proofs.ltOf cf) X → Srt (Go.Proofs.ltOf cf) Y → d.size < 4611686018427387904 →
      Calls P 143 #[.slice (some ⟨blk, off, none⟩) d.size cap, .int .i64 a, .int .i64 m, .int .i64 b, .func (.func g) #[] cb] w (SymPost enc k w0 blk off (Go.Proofs.ltOf cf) A X Y Q))
    (a m b : Nat) (d : Array α) (w : World) (A X Y Q : List α) (hN : b - a ≤ N + 1) (hs : d0.size = d.size) (S : SWK enc k w0 blk off d w) (hd : d.toList = A ++ (X ++ (Y ++ Q))) (ha : A.length = a) (hm : a + X.length = m) (hb : m + Y.length = b) (hX1 : 1 < X.length) (hY1 : 1 < Y.length) (hX : Srt (Go.Proofs.ltOf cf) X) (hY : Srt (Go.Proofs.ltOf cf) Y) (hsz : d.size < 4611686018427387904) :
    Calls P 143 #[.slice (some ⟨blk, off, none⟩) d.size cap, .int .i64 a, .int .i64 m, .int .i64 b, .func (.func g) #[] cb] w (SymPost enc k w0 blk off (Go.Proofs.ltOf cf) A X Y Q) := by
  have HRO : Aside (∀ (a m b : Nat) (d : Array α) (w : World) (A X Y Q : List α), d0.size = d.size → SWK enc k w0 blk off d w → d.toList = A ++ (X ++ (Y ++ Q)) → A.length = a → a + X.length = m → m + Y.length = b → 0 < X.length → 0 < Y.length → d.size < 4611686018427387904 →
      Calls P 169 #[.slice (some ⟨blk, off, none⟩) d.size cap, .int .i64 a, .int .i64 m, .int .i64 b, .func (.func g) #[] cb] w fun e w' => e = .returned (.tuple #[]) ∧ ∃ d' : Array α, d'.toList = A ++ (Y ++ (X ++ Q)) ∧ SWK enc k w0 blk off d' w') :=
    fun a m b d w A X Y Q hs S hd ha hm hb hX hY hsz => rotate_NodeE L enc g cb blk off cap a m b d0 d w0 w R hs S A X Y Q hd ha hm hb hX hY hsz
  have HIH : Aside _ := IH
  clear IH
  obtain ⟨mixed, aE, zE, tU, aU, zU, vU, tI, aI, zI, vI, tB, aB, zB, vB, tS, aS, zS, vS, tF, aF, zF, vF, tN, aN, zN, vN, fSw, fRo, fSy⟩ := L
  have eRo : ∀ args w, (callFunc 169 args).run P w = .ok (.enter 169 args) w := enters_of fRo (by kernel_rfl) rfl
  have eSy : ∀ args w, (callFunc 143 args).run P w = .ok (.enter 143 args) w := enters_of fSy (by kernel_rfl) rfl
  have HC : Aside _ := hcmp
  have S0 : Aside (SWK enc k w0 blk off d w) := S
  have hdl : d.size = b + Q.length := by rw [← Array.length_toList, hd]; simp; omega
  have HD : Hid (d.toList = A ++ (X ++ (Y ++ Q)) ∧ A.length = a ∧ a + X.length = m ∧ m + Y.length = b ∧ d.size = b + Q.length) := ⟨hd, ha, hm, hb, hdl⟩
  have HS : Aside (Srt (Go.Proofs.ltOf cf) X ∧ Srt (Go.Proofs.ltOf cf) Y) := ⟨hX, hY⟩
  have OO : Aside (SWO (Go.Proofs.ltOf cf)) := O
  have ham : a + 1 < m := by omega
  have hmb : m + 1 < b := by omega
  have hbd : b ≤ d.size := by omega
  have hone : ((m : Int) - (a : Int) == 1) = false := by rw [beq_eq_false_iff_ne]; omega
  have hone2 : ((b : Int) - (m : Int) == 1) = false := by rw [beq_eq_false_iff_ne]; omega
  clear S hcmp hd hdl ha hb hm hX hY O hX1 hY1
  obtain ⟨mid, hmd⟩ : ∃ mid : Nat, mid = (a + b) / 2 := ⟨_, rfl⟩
  have e1 : IntKind.i64.wrap ((a : Int) + (b : Int)) = (a : Int) + (b : Int) := by rw [IntKind.wrap_i64]; omega
  have e2 : IntKind.u64.wrap ((a : Int) + (b : Int)) = (a : Int) + (b : Int) := by rw [IntKind.wrap_u64]; omega
  go_enter fSy, Tryz.ntmps143
  go_upto_region 25 with fail
  have eh : ((a : Int) + (b : Int)) / 2 = (mid : Int) := by omega
  simp only [eh]
  have hmid1 : 2 * mid ≤ a + b := by omega
  have hmid2 : a + b ≤ 2 * mid + 1 := by omega
  clear eh e1 e2 hmd
  have e3 : IntKind.i64.wrap ((mid : Int) + (m : Int)) = (mid : Int) + (m : Int) := by rw [IntKind.wrap_i64]; omega
  have e4 : IntKind.i64.wrap ((mid : Int) + (m : Int) - (b : Int)) = (mid : Int) + (m : Int) - (b : Int) := by rw [IntKind.wrap_i64]; omega
  have e5 : IntKind.i64.wrap ((mid : Int) + (m : Int) - 1) = (mid : Int) + (m : Int) - 1 := by rw [IntKind.wrap_i64]; omega
  go_upto_if 140 with fail
  go_cut [20, 21] from 22 (fun s20 s21 wc => (∃ s0 r0 : Nat, s20 = .int .i64 s0 ∧ s21 = .int .i64 r0 ∧ a ≤ s0 ∧ s0 ≤ r0 ∧ r0 ≤ mid ∧ r0 ≤ m ∧ mid + m ≤ b + s0 ∧ (s0 = a ∨ mid + m - s0 = b) ∧ (r0 = m ∨ mid + m - r0 = m)) ∧ Aside (SWK enc k w0 blk off d wc))
  case first =>
    as_aux_lemma =>
      by_cases hg : mid < m
      · have hz : (mid : Int) < (m : Int) := by omega
        go_wp2_with fail
        go_meet
        case rel => exact ⟨⟨mid + m - b, mid, by congr 1; omega, rfl, by omega, by omega, by omega, by omega, by omega, by omega, by omega⟩, S0⟩
      · have hz : ¬ (mid : Int) < (m : Int) := by omega
        go_wp2_with fail
        go_meet
        case rel => exact ⟨⟨a, m, rfl, rfl, by omega, by omega, by omega, by omega, by omega, by omega, by omega⟩, S0⟩
  case rest =>
    as_aux_lemma =>
      obtain ⟨⟨s0, r0, rfl, rfl, h1, h2, h3, h4, h5, h6, h7⟩, S1⟩ := hcut
      clear S0
      go_wp2
      clear e4
      go_loopg [20, 21] (r0 - s0) (fun kx s10 s11 wr => ∃ (i j : Nat), s10 = .int .i64 i ∧ s11 = .int .i64 j ∧ s0 ≤ i ∧ i ≤ j ∧ j ≤ r0 ∧ j - i ≤ kx ∧ Aside (SWK enc k w0 blk off d wr) ∧ Aside (∀ c, s0 ≤ c → c < i → Go.Proofs.ltOf cf d[mid + m - 1 - c]! d[c]! = false) ∧ Aside (∀ c, j ≤ c → c < r0 → Go.Proofs.ltOf cf d[mid + m - 1 - c]! d[c]! = true))
      case atStart => exact ⟨s0, r0, rfl, rfl, Nat.le_refl _, h2, Nat.le_refl _, Nat.le_refl _, S1, fun q h1 h2 => by omega, fun q h1 h2 => by omega⟩
      case round =>
        clear S1
        obtain ⟨i, j, rfl, rfl, hmi, hij, hjb, hkx, S1, HI, HJ⟩ := hrel
        have hlX : ∀ p q, a ≤ p → p ≤ q → q < m → Go.Proofs.ltOf cf d[q]! d[p]! = false := fun p q h1 h2 h3 => srt_le OO.out (A := A) (B := X) (C := Y ++ Q) HD.out.1 HS.out.1 (by have := HD.out.2.1; omega) h2 (by have := HD.out; omega)
        have hlY : ∀ p q, m ≤ p → p ≤ q → q < b → Go.Proofs.ltOf cf d[q]! d[p]! = false := fun p q h1 h2 h3 => srt_le OO.out (A := A ++ X) (B := Y) (C := Q) (by rw [HD.out.1]; simp) HS.out.2 (by have := HD.out; simp; omega) h2 (by have := HD.out; simp; omega)
        have HLX : Aside _ := hlX
        have HLY : Aside _ := hlY
        clear hlX hlY
        by_cases hlt : i < j
        · have hz : (i : Int) < (j : Int) := by omega
          obtain ⟨c, hh⟩ : ∃ c : Nat, c = (i + j) / 2 := ⟨_, rfl⟩
          have e1 : IntKind.i64.wrap ((i : Int) + (j : Int)) = (i : Int) + (j : Int) := by rw [IntKind.wrap_i64]; omega
          have e2 : IntKind.u64.wrap ((i : Int) + (j : Int)) = (i : Int) + (j : Int) := by rw [IntKind.wrap_u64]; omega
          go_upto_region 35 with fail
          have eh : ((i : Int) + (j : Int)) / 2 = (c : Int) := by omega
          simp only [eh]
          have hih : i ≤ c := by omega
          have hhj : c < j := by omega
          clear eh e1 e2 hh
          have HI' := HI.out
          have HJ' := HJ.out
          have q49 : (c : Int) ≤ (mid : Int) + (m : Int) - 1 := by omega
          have ea49 : ((mid : Int) + (m : Int) - 1 - (c : Int)).toNat = mid + m - 1 - c := by omega
          have pa49 : (0 : Int) ≤ (mid : Int) + (m : Int) - 1 - (c : Int) := by omega
          have ba49 : (mid : Int) + (m : Int) - 1 - (c : Int) < (d.size : Int) := by omega
          have ra49 : IntKind.i64.wrap ((mid : Int) + (m : Int) - 1 - (c : Int)) = (mid : Int) + (m : Int) - 1 - (c : Int) := by rw [IntKind.wrap_i64]; omega
          have ec49 : ((c : Int)).toNat = c := by omega
          have pc49 : (0 : Int) ≤ (c : Int) := by omega
          have bc49 : (c : Int) < (d.size : Int) := by omega
          have rc49 : IntKind.i64.wrap ((c : Int)) = (c : Int) := by rw [IntKind.wrap_i64]; omega
          obtain ⟨x49, hx49⟩ : ∃ x, x = d[mid + m - 1 - c]! := ⟨_, rfl⟩
          obtain ⟨y49, hy49⟩ : ∃ x, x = d[c]! := ⟨_, rfl⟩
          have l49a := S1.out.ld R (by omega) P (mid + m - 1 - c) (by omega)
          have l49b := S1.out.ld R (by omega) P (c) (by omega)
          rw [← hx49] at l49a
          rw [← hy49] at l49b
          have hc49 := S1.out.cmp HC.out (by omega) x49 y49
          by_cases hL : cf x49 y49 < 0
          · have hd49 : decide (cf x49 y49 < 0) = true := decide_eq_true hL
            have hlt2 : Go.Proofs.ltOf cf d[mid + m - 1 - c]! d[c]! = true := by rw [← hx49, ← hy49]; exact hd49
            have HJ2 : Aside (∀ q, c ≤ q → q < r0 → Go.Proofs.ltOf cf d[mid + m - 1 - q]! d[q]! = true) := fun q h1' h2' => by
              cases hq : Go.Proofs.ltOf cf d[mid + m - 1 - q]! d[q]! with
              | true => rfl
              | false =>
                have k1 := HLX.out c q (by omega) h1' (by omega)
                have k2 := HLY.out (mid + m - 1 - q) (mid + m - 1 - c) (by omega) (by omega) (by omega)
                have := OO.out.ntrans _ _ _ (OO.out.ntrans _ _ _ k2 hq) k1
                rw [hlt2] at this; cases this
            clear HJ HI' HJ' hlt2
            clear hx49 hy49
            go_wp2_with fail
            go_quiet_grown (first | (go_at_fn g; refine Calls.grown_of (hc49 _ _)))
            have S2 : Aside (SWK enc k w0 blk off d (grow (wr.drewN nq) osq)) := S1.out.grown nq osq
            clear l49a l49b hc49 S1
            generalize grow (wr.drewN nq) osq = w2 at S2 ⊢
            clear nq osq
            go_wp2
            go_roundg (c - i)
            case measure => omega
            case rel => exact ⟨i, c, rfl, rfl, hmi, by omega, by omega, Nat.le_refl _, S2, HI, HJ2⟩
          · have hd49 : decide (cf x49 y49 < 0) = false := decide_eq_false hL
            have hlt2 : Go.Proofs.ltOf cf d[mid + m - 1 - c]! d[c]! = false := by rw [← hx49, ← hy49]; exact hd49
            have HI2 : Aside (∀ q, s0 ≤ q → q < c + 1 → Go.Proofs.ltOf cf d[mid + m - 1 - q]! d[q]! = false) := fun q h1' h2' => by
              have k1 := HLX.out q c (by omega) (by omega) (by omega)
              have k2 := HLY.out (mid + m - 1 - c) (mid + m - 1 - q) (by omega) (by omega) (by omega)
              exact OO.out.ntrans _ _ _ (OO.out.ntrans _ _ _ k2 hlt2) k1
            clear HI HI' HJ' hlt2
            clear hx49 hy49
            go_wp2_with fail
            go_quiet_grown (first | (go_at_fn g; refine Calls.grown_of (hc49 _ _)))
            have S2 : Aside (SWK enc k w0 blk off d (grow (wr.drewN nq) osq)) := S1.out.grown nq osq
            clear l49a l49b hc49 S1
            generalize grow (wr.drewN nq) osq = w2 at S2 ⊢
            clear nq osq
            go_wp2
            go_roundg (j - (c + 1))
            case measure => omega
            case rel => exact ⟨c + 1, j, by go_num, rfl, by omega, by omega, hjb, Nat.le_refl _, S2, HI2, HJ⟩
        · have hz : ¬ (i : Int) < (j : Int) := by omega
          have hji : j = i := by omega
          subst hji
          obtain ⟨hdd, hA, hXm, hYb, hdl⟩ := id HD.out
          have hp := part_ok OO.out hdd hA hXm hYb HS.out.1 HS.out.2 (s := j) (n := mid + m) (by omega) (by omega) (by omega) (by omega) h6 h7 hmi hjb h4 HI.out HJ.out
          have hK : ∃ X1 X2 Y1 Y2 : List α, X = X1 ++ X2 ∧ Y = Y1 ++ Y2 ∧ X1.length + a = j ∧ X2.length + j = m ∧ Y1.length + j = mid ∧ Y2.length + (mid + m) = b + j ∧ (∀ x ∈ X2, ∀ y ∈ Y1, Go.Proofs.ltOf cf y x = true) ∧ (∀ x ∈ X1, ∀ y ∈ Y2, Go.Proofs.ltOf cf y x = false) :=
            ⟨X.take (j - a), X.drop (j - a), Y.take (mid + m - j - m), Y.drop (mid + m - j - m), (List.take_append_drop ..).symm, (List.take_append_drop ..).symm, by simp; omega, by simp; omega, by simp; omega, by simp; omega, hp.1, hp.2⟩
          obtain ⟨X1, X2, Y1, Y2, hXe, hYe, l1, l2, l3, l4, hpa, hpb⟩ := hK
          have HK : Hid (X = X1 ++ X2 ∧ Y = Y1 ++ Y2 ∧ X1.length + a = j ∧ X2.length + j = m ∧ Y1.length + j = mid ∧ Y2.length + (mid + m) = b + j) := ⟨hXe, hYe, l1, l2, l3, l4⟩
          have HP : Aside ((∀ x ∈ X2, ∀ y ∈ Y1, Go.Proofs.ltOf cf y x = true) ∧ (∀ x ∈ X1, ∀ y ∈ Y2, Go.Proofs.ltOf cf y x = false)) := ⟨hpa, hpb⟩
          clear hp HI HJ HLX HLY hA hXm hYb hdl hXe hYe l1 l2 l3 l4 hpa hpb
          have e6 : IntKind.i64.wrap ((mid : Int) + (m : Int) - (j : Int)) = (mid : Int) + (m : Int) - (j : Int) := by rw [IntKind.wrap_i64]; omega
          have S2 : Aside (∃ d2 : Array α, d2.toList = A ++ (X ++ (Y ++ Q)) ∧ SWK enc k w0 blk off d2 wr) := ⟨d, hdd, S1.out⟩
          clear hdd S1
          have hje : j < mid + m := by omega
          obtain ⟨en, hen⟩ : ∃ en : Nat, en = mid + m - j := ⟨_, rfl⟩
          go_upto_region 39 with fail
          have een : (mid : Int) + (m : Int) - (j : Int) = (en : Int) := by omega
          simp only [een]
          have hen1 : en + j = mid + m := by omega
          have HEN : Hid (en + j = mid + m) := hen1
          have hmen : j < mid → m < en := fun _ => by omega
          have hmen' : ¬ j < mid → ¬ m < en := fun _ => by omega
          have henb : mid + m < b + j → en < b := fun _ => by omega
          have henb' : ¬ mid + m < b + j → ¬ en < b := fun _ => by omega
          have hmde : j < m → mid < en := fun _ => by omega
          have hmde' : ¬ j < m → ¬ mid < en := fun _ => by omega
          clear een e6 hen hen1
          go_cut [185] from 25 (fun s185 wx => s185 = .bool (decide (j < m ∧ j < mid)) ∧ Aside (∃ d2 : Array α, d2.toList = A ++ (X ++ (Y ++ Q)) ∧ SWK enc k w0 blk off d2 wx))
          case first =>
            as_aux_lemma =>
              by_cases c1 : j < m
              · have z1 : (j : Int) < (m : Int) := by omega
                by_cases c2 : j < mid
                · have z2 : (m : Int) < (en : Int) := by have := hmen c2; omega
                  go_wp2_with fail
                  go_meet
                  case rel => exact ⟨by simp [c1, c2], S2⟩
                · have z2 : ¬ (m : Int) < (en : Int) := by have := hmen' c2; omega
                  go_wp2_with fail
                  go_meet
                  case rel => exact ⟨by simp [c2], S2⟩
              · have z1 : ¬ (j : Int) < (m : Int) := by omega
                go_wp2_with fail
                go_meet
                case rel => exact ⟨by simp [c1], S2⟩
          case rest =>
            as_aux_lemma =>
              clear S2
              obtain ⟨rfl, S2⟩ := hcut
              go_upto_if 185 with fail
              go_cut [] from 25 (fun wx => Aside (∃ d2 : Array α, d2.toList = A ++ (X1 ++ (Y1 ++ (X2 ++ (Y2 ++ Q)))) ∧ SWK enc k w0 blk off d2 wx))
              case first =>
                as_aux_lemma =>
                  by_cases hc : j < m ∧ j < mid
                  · have hdec : decide (j < m ∧ j < mid) = true := decide_eq_true hc
                    have hcall : Calls P 169 #[.slice (some ⟨blk, off, none⟩) d.size cap, .int .i64 j, .int .i64 m, .int .i64 en, .func (.func g) #[] cb] wc fun e w' => e = .returned (.tuple #[]) ∧ ∃ d' : Array α, d'.toList = A ++ (X1 ++ (Y1 ++ (X2 ++ (Y2 ++ Q)))) ∧ SWK enc k w0 blk off d' w' := by
                      obtain ⟨d2, hd2, hS2⟩ := S2.out
                      obtain ⟨k1, k2, k3, k4, k5, k6⟩ := HK.out
                      have hE := HEN.out
                      have hsz2 : d2.size = d.size := by rw [← Array.length_toList, hd2, ← HD.out.1, Array.length_toList]
                      have h := HRO.out j m en d2 wc (A ++ X1) X2 Y1 (Y2 ++ Q) (by omega) hS2 (by rw [hd2, k1, k2]; simp only [List.append_assoc]) (by rw [List.length_append, HD.out.2.1]; omega) (by omega) (by omega) (by omega) (by omega) (by omega)
                      rw [hsz2] at h
                      refine h.mono ?_
                      rintro e w' ⟨rfl, d3, hd3, hS3⟩
                      exact ⟨rfl, d3, by rw [hd3]; simp only [List.append_assoc], hS3⟩
                    clear S2
                    go_wp2_with (go_at_fn 169; refine hcall.mono ?_; rintro e w1 ⟨rfl, S3⟩)
                    go_meet
                    case rel => exact S3
                  · have hdec : decide (j < m ∧ j < mid) = false := decide_eq_false hc
                    go_wp2_with fail
                    go_meet
                    case rel =>
                      obtain ⟨d2, hd2, hS2⟩ := S2.out
                      obtain ⟨k1, k2, k3, k4, k5, k6⟩ := HK.out
                      refine ⟨d2, ?_, hS2⟩
                      rw [hd2, k1, k2]
                      rcases Nat.lt_or_ge j m with hj | hj
                      · have : Y1 = [] := List.eq_nil_of_length_eq_zero (by omega)
                        rw [this]; simp
                      · have : X2 = [] := List.eq_nil_of_length_eq_zero (by omega)
                        rw [this]; simp
              case rest =>
                as_aux_lemma =>
                  clear S2
                  have S2 := hcut
                  clear hcut
                  go_upto_region 41 with fail
                  go_cut [199] from 25 (fun s199 wx => s199 = .bool (decide (a < j ∧ j < mid)) ∧ Aside (∃ d2 : Array α, d2.toList = A ++ (X1 ++ (Y1 ++ (X2 ++ (Y2 ++ Q)))) ∧ SWK enc k w0 blk off d2 wx))
                  case first =>
                    as_aux_lemma =>
                      by_cases c1 : a < j
                      · have z1 : (a : Int) < (j : Int) := by omega
                        by_cases c2 : j < mid
                        · have z2 : (j : Int) < (mid : Int) := by omega
                          go_wp2_with fail
                          go_meet
                          case rel => exact ⟨by simp [c1, c2], S2⟩
                        · have z2 : ¬ (j : Int) < (mid : Int) := by omega
                          go_wp2_with fail
                          go_meet
                          case rel => exact ⟨by simp [c2], S2⟩
                      · have z1 : ¬ (a : Int) < (j : Int) := by omega
                        go_wp2_with fail
                        go_meet
                        case rel => exact ⟨by simp [c1], S2⟩
                  case rest =>
                    as_aux_lemma =>
                      clear S2
                      obtain ⟨rfl, S2⟩ := hcut
                      go_upto_if 199 with fail
                      go_cut [] from 25 (fun wx => Aside (∃ (Z1 : List α) (d2 : Array α), Srt (Go.Proofs.ltOf cf) Z1 ∧ Stb (Go.Proofs.ltOf cf) (X1 ++ Y1) Z1 ∧ d2.toList = A ++ (Z1 ++ (X2 ++ (Y2 ++ Q))) ∧ SWK enc k w0 blk off d2 wx))
                      case first =>
                        as_aux_lemma =>
                          by_cases hc : a < j ∧ j < mid
                          · have hdec : decide (a < j ∧ j < mid) = true := decide_eq_true hc
                            have hcall : Calls P 143 #[.slice (some ⟨blk, off, none⟩) d.size cap, .int .i64 a, .int .i64 j, .int .i64 mid, .func (.func g) #[] cb] wc fun e w' => e = .returned (.tuple #[]) ∧ ∃ (Z1 : List α) (d2 : Array α), Srt (Go.Proofs.ltOf cf) Z1 ∧ Stb (Go.Proofs.ltOf cf) (X1 ++ Y1) Z1 ∧ d2.toList = A ++ (Z1 ++ (X2 ++ (Y2 ++ Q))) ∧ SWK enc k w0 blk off d2 w' := by
                              obtain ⟨d2, hd2, hS2⟩ := S2.out
                              obtain ⟨k1, k2, k3, k4, k5, k6⟩ := HK.out
                              obtain ⟨sX, sY⟩ := HS.out
                              rw [k1] at sX
                              rw [k2] at sY
                              have hsz2 : d2.size = d.size := by rw [← Array.length_toList, hd2, ← Array.length_toList (xs := d), HD.out.1, k1, k2]; simp; omega
                              have h := HIH.out a j mid d2 wc A X1 Y1 (X2 ++ (Y2 ++ Q)) (by omega) (by omega) hS2 hd2 HD.out.2.1 (by omega) (by omega) (by omega) (by omega) (List.pairwise_append.1 sX).1 (List.pairwise_append.1 sY).1 (by omega)
                              rw [hsz2] at h
                              refine h.mono ?_
                              rintro e w' ⟨rfl, d3, Z, hd3, h1, h2, h3⟩
                              exact ⟨rfl, Z, d3, h1, h2, hd3, h3⟩
                            clear S2
                            go_wp2_with (go_at_fn 143; refine hcall.mono ?_; rintro e w1 ⟨rfl, S3⟩)
                            go_meet
                            case rel => exact S3
                          · have hdec : decide (a < j ∧ j < mid) = false := decide_eq_false hc
                            go_wp2_with fail
                            go_meet
                            case rel =>
                              obtain ⟨d2, hd2, hS2⟩ := S2.out
                              obtain ⟨k1, k2, k3, k4, k5, k6⟩ := HK.out
                              obtain ⟨sX, sY⟩ := HS.out
                              rw [k1] at sX
                              rw [k2] at sY
                              refine ⟨X1 ++ Y1, d2, ?_, Stb.refl, by rw [hd2]; simp only [List.append_assoc], hS2⟩
                              rcases Nat.lt_or_ge a j with hj | hj
                              · have : Y1 = [] := List.eq_nil_of_length_eq_zero (by omega)
                                rw [this, List.append_nil]; exact (List.pairwise_append.1 sX).1
                              · have : X1 = [] := List.eq_nil_of_length_eq_zero (by omega)
                                rw [this, List.nil_append]; exact (List.pairwise_append.1 sY).1
                      case rest =>
                        as_aux_lemma =>
                          clear S2
                          have S2 := hcut
                          clear hcut
                          go_upto_region 43 with fail
                          go_cut [213] from 25 (fun s213 wx => s213 = .bool (decide (j < m ∧ mid + m < b + j)) ∧ Aside (∃ (Z1 : List α) (d2 : Array α), Srt (Go.Proofs.ltOf cf) Z1 ∧ Stb (Go.Proofs.ltOf cf) (X1 ++ Y1) Z1 ∧ d2.toList = A ++ (Z1 ++ (X2 ++ (Y2 ++ Q))) ∧ SWK enc k w0 blk off d2 wx))
                          case first =>
                            as_aux_lemma =>
                              by_cases c1 : j < m
                              · have z1 : (mid : Int) < (en : Int) := by have := hmde c1; omega
                                by_cases c2 : mid + m < b + j
                                · have z2 : (en : Int) < (b : Int) := by have := henb c2; omega
                                  go_wp2_with fail
                                  go_meet
                                  case rel => exact ⟨by simp [c1, c2], S2⟩
                                · have z2 : ¬ (en : Int) < (b : Int) := by have := henb' c2; omega
                                  go_wp2_with fail
                                  go_meet
                                  case rel => exact ⟨by simp [c2], S2⟩
                              · have z1 : ¬ (mid : Int) < (en : Int) := by have := hmde' c1; omega
                                go_wp2_with fail
                                go_meet
                                case rel => exact ⟨by simp [c1], S2⟩
                          case rest =>
                            as_aux_lemma =>
                              clear S2
                              obtain ⟨rfl, S2⟩ := hcut
                              by_cases hc : j < m ∧ mid + m < b + j
                              · have hdec : decide (j < m ∧ mid + m < b + j) = true := decide_eq_true hc
                                have hcall : Calls P 143 #[.slice (some ⟨blk, off, none⟩) d.size cap, .int .i64 mid, .int .i64 en, .int .i64 b, .func (.func g) #[] cb] wc (SymPost enc k w0 blk off (Go.Proofs.ltOf cf) A X Y Q) := by
                                  obtain ⟨Z1, d2, s1, s2, hd2, hS2⟩ := S2.out
                                  obtain ⟨k1, k2, k3, k4, k5, k6⟩ := HK.out
                                  obtain ⟨sX, sY⟩ := HS.out
                                  have hE := HEN.out
                                  rw [k1] at sX
                                  rw [k2] at sY
                                  have hz1 : Z1.length = X1.length + Y1.length := by rw [s2.length OO.out, List.length_append]
                                  have hsz2 : d2.size = d.size := by rw [← Array.length_toList, hd2, ← Array.length_toList (xs := d), HD.out.1, k1, k2]; simp; omega
                                  have h := HIH.out mid en b d2 wc (A ++ Z1) X2 Y2 Q (by omega) (by omega) hS2 (by rw [hd2]; simp only [List.append_assoc]) (by rw [List.length_append, HD.out.2.1]; omega) (by omega) (by omega) (by omega) (by omega) (List.pairwise_append.1 sX).2.1 (List.pairwise_append.1 sY).2.1 (by omega)
                                  rw [hsz2] at h
                                  refine h.mono ?_
                                  rintro e w' ⟨rfl, d3, Z2, hd3, t1, t2, h3⟩
                                  have hM := merge_step OO.out sX sY HP.out.1 HP.out.2 s1 s2 t1 t2
                                  exact ⟨rfl, d3, Z1 ++ Z2, by rw [hd3]; simp only [List.append_assoc], hM.1, by rw [k1, k2]; exact hM.2, h3⟩
                                clear S2
                                go_wp2_with (go_at_fn 143; refine hcall.mono ?_; rintro e w1 ⟨rfl, S3⟩)
                                go_end0
                                exact ⟨rfl, S3⟩
                              · have hdec : decide (j < m ∧ mid + m < b + j) = false := decide_eq_false hc
                                go_wp2_with fail
                                go_end0
                                obtain ⟨Z1, d2, s1, s2, hd2, hS2⟩ := S2.out
                                obtain ⟨k1, k2, k3, k4, k5, k6⟩ := HK.out
                                obtain ⟨sX, sY⟩ := HS.out
                                rw [k1] at sX
                                rw [k2] at sY
                                have hM := merge_step OO.out sX sY HP.out.1 HP.out.2 s1 s2 (Z2 := X2 ++ Y2) (by
                                  rcases Nat.lt_or_ge j m with hj | hj
                                  · have : Y2 = [] := List.eq_nil_of_length_eq_zero (by omega)
                                    rw [this, List.append_nil]; exact (List.pairwise_append.1 sX).2.1
                                  · have : X2 = [] := List.eq_nil_of_length_eq_zero (by omega)
                                    rw [this, List.nil_append]; exact (List.pairwise_append.1 sY).2.1) Stb.refl
                                exact ⟨rfl, d2, Z1 ++ (X2 ++ Y2), by rw [hd2]; simp only [List.append_assoc], hM.1, by rw [k1, k2]; exact hM.2, hS2⟩
end Go.Proofs.YtjegncmkebbdfaaGreatDoor

/-
  Contracts of the functions of this seat that each theorem names: what a call returns, and that it writes nothing that was there before. The conditions stand in each theorem.
-/
import Derived.Test.YtffnogjgnpbjlaaStabI1
set_option linter.unusedSimpArgs false
set_option linter.unusedVariables false
namespace Go.Proofs.Ytffnogjgnpbjlaa
open Go.RowKit Go.Shelf Go.Lib Go.Sort
variable {P : Program} {α : Type} [Inhabited α]
/-- What a merge leaves. -/
def SymPost (enc : α → List Value) (k : Nat) (w0 : World) (blk off : Nat) (lt : α → α → Bool) (A X Y Q : List α) (e : Ending) (w' : World) : Prop :=
  e = .returned (.tuple #[]) ∧ ∃ (d' : Array α) (Z : List α), d'.toList = A ++ (Z ++ Q) ∧ Srt lt Z ∧ Stb lt (X ++ Y) Z ∧ SWK enc k w0 blk off d' w'
/-- Where the two runs are parted. -/
theorem part_ok {lt : α → α → Bool} (O : SWO lt) {d : Array α} {A X Y Q : List α} {a m b s n : Nat} (hd : d.toList = A ++ (X ++ (Y ++ Q))) (ha : A.length = a) (hm : a + X.length = m) (hb : m + Y.length = b) (hX : Srt lt X) (hY : Srt lt Y)
    (has : a ≤ s) (hsm : s ≤ m) (hn : m + s ≤ n) (hnb : n ≤ b + s) {s0 r0 : Nat} (h0 : s0 = a ∨ n - s0 = b) (hr : r0 = m ∨ n - r0 = m) (hs0 : s0 ≤ s) (hsr : s ≤ r0) (hr0 : r0 ≤ m)
    (HI : ∀ c, s0 ≤ c → c < s → lt d[n - 1 - c]! d[c]! = false) (HJ : ∀ c, s ≤ c → c < r0 → lt d[n - 1 - c]! d[c]! = true) :
    (∀ x ∈ X.drop (s - a), ∀ y ∈ Y.take (n - s - m), lt y x = true) ∧ (∀ x ∈ X.take (s - a), ∀ y ∈ Y.drop (n - s - m), lt y x = false) := by
  have gX : ∀ q (hq : q < X.length), d[a + q]! = X[q] := fun q hq => nth_at (A := A ++ X.take q) (B := X.drop (q + 1) ++ (Y ++ Q)) (by
    rw [hd, List.append_assoc _ (X.take q), ← List.cons_append, ← List.drop_eq_getElem_cons hq, ← List.append_assoc (X.take q), List.take_append_drop]) (by simp; omega)
  have gY : ∀ q (hq : q < Y.length), d[m + q]! = Y[q] := fun q hq => nth_at (A := (A ++ X) ++ Y.take q) (B := Y.drop (q + 1) ++ Q) (by
    rw [hd, List.append_assoc _ (Y.take q), ← List.cons_append, ← List.drop_eq_getElem_cons hq, ← List.append_assoc (Y.take q), List.take_append_drop, List.append_assoc]) (by simp; omega)
  have lX : ∀ p q, a ≤ p → p ≤ q → q < m → lt d[q]! d[p]! = false := fun p q h1 h2 h3 => srt_le O (A := A) (B := X) (C := Y ++ Q) hd hX (by omega) h2 (by omega)
  have lY : ∀ p q, m ≤ p → p ≤ q → q < b → lt d[q]! d[p]! = false := fun p q h1 h2 h3 => srt_le O (A := A ++ X) (B := Y) (C := Q) (by rw [hd]; simp) hY (by simp; omega) h2 (by simp; omega)
  refine ⟨fun x hx y hy => ?_, fun x hx y hy => ?_⟩
  · obtain ⟨p, hp, rfl⟩ := List.getElem_of_mem hx
    obtain ⟨q, hq, rfl⟩ := List.getElem_of_mem hy
    have hp' : p < X.length - (s - a) := by simpa using hp
    have hq' : q < n - s - m ∧ q < Y.length := by simp at hq; omega
    rw [List.getElem_drop, List.getElem_take, ← gX _ (by omega), ← gY _ hq'.2]
    rcases Nat.lt_or_ge s r0 with h | h
    · have hc := HJ s (Nat.le_refl _) h
      have h1 := lX s (a + (s - a + p)) has (by omega) (by omega)
      have h2 := lY (m + q) (n - 1 - s) (by omega) (by omega) (by omega)
      cases hf : lt d[m + q]! d[a + (s - a + p)]! with
      | true => rfl
      | false => have := O.ntrans _ _ _ (O.ntrans _ _ _ h2 hf) h1; rw [hc] at this; cases this
    · rcases hr with h' | h' <;> omega
  · obtain ⟨p, hp, rfl⟩ := List.getElem_of_mem hx
    obtain ⟨q, hq, rfl⟩ := List.getElem_of_mem hy
    have hp' : p < s - a ∧ p < X.length := by simp at hp; omega
    have hq' : q < Y.length - (n - s - m) := by simpa using hq
    rw [List.getElem_take, List.getElem_drop, ← gX _ hp'.2, ← gY _ (by omega)]
    rcases Nat.lt_or_ge s0 s with h | h
    · have hc := HI (s - 1) (by omega) (by omega)
      have h1 := lX (a + p) (s - 1) (by omega) (by omega) (by omega)
      have h2 := lY (n - 1 - (s - 1)) (m + (n - s - m + q)) (by omega) (by omega) (by omega)
      exact O.ntrans _ _ _ (O.ntrans _ _ _ h2 hc) h1
    · rcases h0 with h' | h' <;> omega
set_option maxHeartbeats 8000000 in
set_option maxRecDepth 1000000 in
/-- The left run is one element. -/
theorem symL_IDE {k : Nat} (L : LaysIDE P k) (enc : α → List Value) (cf : α → α → Int) (O : SWO (Go.Proofs.ltOf cf)) (g : Nat) (cb : Array Value) (blk off cap a m b : Nat) (d0 d : Array α) (w0 w : World) (eg : ∀ args w, (callFunc g args).run P w = .ok (.enter g args) w) (hcmp : CmpLays P g cb enc k cf blk off d0.size w0) (R : RowK enc k w0 blk off d0) (hs : d0.size = d.size) (S : SWK enc k w0 blk off d w)
    (A Y Q : List α) (x : α) (hd : d.toList = A ++ (x :: (Y ++ Q))) (ha : A.length = a) (hm : a + 1 = m) (hb : m + Y.length = b) (hY : Srt (Go.Proofs.ltOf cf) Y) (hsz : d.size < 4611686018427387904) :
    Calls P 76 #[.slice (some ⟨blk, off, none⟩) d.size cap, .int .i64 a, .int .i64 m, .int .i64 b, .func (.func g) #[] cb] w fun e w' =>
      e = .returned (.tuple #[]) ∧ ∃ (d' : Array α) (Z : List α), d'.toList = A ++ (Z ++ Q) ∧ Srt (Go.Proofs.ltOf cf) Z ∧ Stb (Go.Proofs.ltOf cf) (x :: Y) Z ∧ SWK enc k w0 blk off d' w' := by
  obtain ⟨mixed, aE, zE, tU, aU, zU, vU, tI, aI, zI, vI, tB, aB, zB, vB, tS, aS, zS, vS, tF, aF, zF, vF, tN, aN, zN, vN, fSw, fRo, fSy⟩ := L
  have HC : Aside _ := hcmp
  have S0 : Aside (SWK enc k w0 blk off d w) := S
  have hdl : d.size = b + Q.length := by rw [← Array.length_toList, hd]; simp; omega
  have hle : ∀ p q, m ≤ p → p ≤ q → q < b → Go.Proofs.ltOf cf d[q]! d[p]! = false := fun p q h1 h2 h3 => srt_le O (A := A ++ [x]) (B := Y) (C := Q) (by rw [hd]; simp) hY (by simp; omega) h2 (by simp; omega)
  have hxa : d[a]! = x := nth_at hd ha.symm
  have HLE : Aside (∀ p q, m ≤ p → p ≤ q → q < b → Go.Proofs.ltOf cf d[q]! d[p]! = false) := hle
  have HX : Hid (d[a]! = x) := hxa
  have HD : Hid (d.toList = A ++ (x :: (Y ++ Q)) ∧ A.length = a ∧ m + Y.length = b ∧ d.size = b + Q.length) := ⟨hd, ha, hb, hdl⟩
  have HY : Aside (Srt (Go.Proofs.ltOf cf) Y) := hY
  have OO : Aside (SWO (Go.Proofs.ltOf cf)) := O
  have hmb : m ≤ b := by omega
  have hbd : b ≤ d.size := by omega
  have hm1 : a < m := by omega
  have hm2 : m ≤ a + 1 := by omega
  have hone : (m : Int) - (a : Int) = 1 := by omega
  clear S hcmp hle hxa hd hdl ha hb hY O hm
  go_enter fSy, Try.ntmps76
  go_wp2
  go_loopg [10, 11] (b - m) (fun kx s10 s11 wr => ∃ (i j : Nat), s10 = .int .i64 i ∧ s11 = .int .i64 j ∧ m ≤ i ∧ i ≤ j ∧ j ≤ b ∧ j - i ≤ kx ∧ Aside (SWK enc k w0 blk off d wr) ∧ Aside (∀ q, m ≤ q → q < i → Go.Proofs.ltOf cf d[q]! x = true) ∧ Aside (∀ q, j ≤ q → q < b → Go.Proofs.ltOf cf d[q]! x = false))
  case atStart => exact ⟨m, b, rfl, rfl, Nat.le_refl _, by omega, Nat.le_refl _, by omega, S0, fun q h1 h2 => by omega, fun q h1 h2 => by omega⟩
  case round =>
    clear S0
    obtain ⟨i, j, rfl, rfl, hmi, hij, hjb, hkx, S1, HI, HJ⟩ := hrel
    by_cases hlt : i < j
    · have hz : (i : Int) < (j : Int) := by omega
      obtain ⟨h, hh⟩ : ∃ h : Nat, h = (i + j) / 2 := ⟨_, rfl⟩
      have e1 : IntKind.i64.wrap ((i : Int) + (j : Int)) = (i : Int) + (j : Int) := by rw [IntKind.wrap_i64]; omega
      have e2 : IntKind.u64.wrap ((i : Int) + (j : Int)) = (i : Int) + (j : Int) := by rw [IntKind.wrap_u64]; omega
      go_upto_region 5 with fail
      have eh : ((i : Int) + (j : Int)) / 2 = (h : Int) := by omega
      simp only [eh]
      have hih : i ≤ h := by omega
      have hhj : h < j := by omega
      clear eh e1 e2 hh
      have HI' := HI.out
      have HJ' := HJ.out
      have ea49 : ((h : Int)).toNat = h := by omega
      have pa49 : (0 : Int) ≤ (h : Int) := by omega
      have ba49 : (h : Int) < (d.size : Int) := by omega
      have ra49 : IntKind.i64.wrap ((h : Int)) = (h : Int) := by rw [IntKind.wrap_i64]; omega
      have ec49 : ((a : Int)).toNat = a := by omega
      have pc49 : (0 : Int) ≤ (a : Int) := by omega
      have bc49 : (a : Int) < (d.size : Int) := by omega
      have rc49 : IntKind.i64.wrap ((a : Int)) = (a : Int) := by rw [IntKind.wrap_i64]; omega
      obtain ⟨x49, hx49⟩ : ∃ x, x = d[h]! := ⟨_, rfl⟩
      obtain ⟨y49, hy49⟩ : ∃ x, x = d[a]! := ⟨_, rfl⟩
      have l49a := S1.out.ld R (by omega) P (h) (by omega)
      have l49b := S1.out.ld R (by omega) P (a) (by omega)
      rw [← hx49] at l49a
      rw [← hy49] at l49b
      have hc49 := S1.out.cmp HC.out (by omega) x49 y49
      have hxx : y49 = x := by rw [hy49]; exact HX.out
      subst hxx
      by_cases hL : cf x49 y49 < 0
      · have hd49 : decide (cf x49 y49 < 0) = true := decide_eq_true hL
        have hlt2 : Go.Proofs.ltOf cf d[h]! y49 = true := by rw [← hx49]; exact hd49
        have HI2 : Aside (∀ q, m ≤ q → q < h + 1 → Go.Proofs.ltOf cf d[q]! y49 = true) := fun q h1 h2 => by
          cases hq : Go.Proofs.ltOf cf d[q]! y49 with
          | true => rfl
          | false => have := OO.out.ntrans _ _ _ (HLE.out q h h1 (by omega) (by omega)) hq; rw [hlt2] at this; cases this
        clear HI HI' HJ' hlt2
        clear hx49 hy49
        go_wp2_with fail
        go_quiet_grown (first | (go_at_fn g; refine Calls.grown_of (hc49 _ _)))
        have S2 : Aside (SWK enc k w0 blk off d (grow (wr.drewN nq) osq)) := S1.out.grown nq osq
        clear l49a l49b hc49 S1
        generalize grow (wr.drewN nq) osq = w2 at S2 ⊢
        clear nq osq
        go_wp2
        go_roundg (j - (h + 1))
        case measure => omega
        case rel => exact ⟨h + 1, j, by go_num, rfl, by omega, by omega, hjb, Nat.le_refl _, S2, HI2, HJ⟩
      · have hd49 : decide (cf x49 y49 < 0) = false := decide_eq_false hL
        have hlt2 : Go.Proofs.ltOf cf d[h]! y49 = false := by rw [← hx49]; exact hd49
        have HJ2 : Aside (∀ q, h ≤ q → q < b → Go.Proofs.ltOf cf d[q]! y49 = false) := fun q h1 h2 => OO.out.ntrans _ _ _ (HLE.out h q (by omega) h1 h2) hlt2
        clear HJ HI' HJ' hlt2
        clear hx49 hy49
        go_wp2_with fail
        go_quiet_grown (first | (go_at_fn g; refine Calls.grown_of (hc49 _ _)))
        have S2 : Aside (SWK enc k w0 blk off d (grow (wr.drewN nq) osq)) := S1.out.grown nq osq
        clear l49a l49b hc49 S1
        generalize grow (wr.drewN nq) osq = w2 at S2 ⊢
        clear nq osq
        go_wp2
        go_roundg (h - i)
        case measure => omega
        case rel => exact ⟨i, h, rfl, rfl, hmi, by omega, by omega, Nat.le_refl _, S2, HI, HJ2⟩
    · have hz : ¬ (i : Int) < (j : Int) := by omega
      have hji : j = i := by omega
      subst hji
      have hyl : j - m ≤ Y.length := by have := HD.out.2.2.1; omega
      have HS0 : Hid (d.toList = A ++ (Y.take (a - a) ++ (x :: (Y.drop (a - a) ++ Q)))) := by show _ = _; rw [HD.out.1]; simp
      go_wp2
      go_loopg [13] (j - 1 - a) (fun kx s13 wr => ∃ (p : Nat) (dk : Array α), s13 = .int .i64 p ∧ a ≤ p ∧ p ≤ j - 1 ∧ j - 1 - p ≤ kx ∧ dk.size = d.size ∧ Aside (SWK enc k w0 blk off dk wr) ∧ Hid (dk.toList = A ++ (Y.take (p - a) ++ (x :: (Y.drop (p - a) ++ Q)))))
      case atStart => exact ⟨a, d, rfl, Nat.le_refl _, by omega, Nat.le_refl _, rfl, S1, HS0⟩
      case round =>
        clear S1 HS0
        obtain ⟨p, dk, rfl, hap, hpj, hkx2, hds, S1, HE⟩ := hrel
        have hw1 : IntKind.i64.wrap ((j : Int) - 1) = (j : Int) - 1 := by rw [IntKind.wrap_i64]; omega
        by_cases hlt2 : p < j - 1
        · have hz2 : (p : Int) < (j : Int) - 1 := by omega
          have ew : IntKind.i64.wrap ((p : Int) + 1) = (p : Int) + 1 := by rw [IntKind.wrap_i64]; omega
          go_wp2_with fail
          have ea71 : ((p : Int)).toNat = p := by omega
          have pa71 : (0 : Int) ≤ (p : Int) := by omega
          have ba71 : (p : Int) < (d.size : Int) := by omega
          have ra71 : IntKind.i64.wrap ((p : Int)) = (p : Int) := by rw [IntKind.wrap_i64]; omega
          have ec71 : ((p : Int) + 1).toNat = p + 1 := by omega
          have pc71 : (0 : Int) ≤ (p : Int) + 1 := by omega
          have bc71 : (p : Int) + 1 < (d.size : Int) := by omega
          have rc71 : IntKind.i64.wrap ((p : Int) + 1) = (p : Int) + 1 := by rw [IntKind.wrap_i64]; omega
          have S2 : Aside (SWK enc k w0 blk off (swp dk (p) (p + 1)) ((wr.drew.setCells blk (off + (p) * k) (enc dk[p + 1]!)).setCells blk (off + (p + 1) * k) (enc dk[p]!))) := S1.out.swapped R (p) (p + 1) (by omega) (by omega)
          have l71a := S1.out.ld1 R (by omega) P (p) (by omega)
          have l71b := S1.out.ld1 R (by omega) P (p + 1) (by omega)
          have s71a := S1.out.st1 R (by omega) P (p) (by omega) dk[p + 1]!
          have s71b := S1.out.st2 R (by omega) P (p) (p + 1) (by omega) (by omega) dk[p + 1]! dk[p]!
          have n71a : (enc dk[p]!).length = k := R.hk _
          have n71b : (enc dk[p + 1]!).length = k := R.hk _
          generalize enc dk[p]! = cI71 at S2 l71a s71b n71a
          generalize enc dk[p + 1]! = cJ71 at S2 l71b s71a s71b n71b
          clear S1
          go_wp2_with fail
          go_big_region_o
          clear l71a l71b s71a s71b
          generalize (wr.drew.setCells blk (off + (p) * k) cJ71).setCells blk (off + (p + 1) * k) cI71 = w2 at S2 ⊢
          go_wp2
          go_roundg (j - 1 - (p + 1))
          case measure => omega
          case rel =>
            refine ⟨p + 1, swp dk p (p + 1), by go_num, by omega, by omega, Nat.le_refl _, by rw [size_swp]; exact hds, S2, ?_⟩
            show _ = _
            obtain ⟨_, hA, hYb, _⟩ := HD.out
            have hpY : p - a < Y.length := by omega
            have e : dk.toList = (A ++ Y.take (p - a)) ++ x :: ([] ++ Y[p - a] :: (Y.drop (p - a + 1) ++ Q)) := by
              rw [HE.out, List.drop_eq_getElem_cons hpY]; simp only [List.append_assoc, List.cons_append, List.nil_append]
            rw [swp_list e (by simp; omega) (by simp; omega), show p + 1 - a = p - a + 1 by omega, List.take_add_one, List.getElem?_eq_getElem hpY]
            simp only [List.append_assoc, List.cons_append, Option.toList_some, List.nil_append]
        · have hz2 : ¬ (p : Int) < (j : Int) - 1 := by omega
          go_wp2
          (try simp only [Exit.inBlock, Exit.then])
          refine bodyPost_ret (results_none rfl _ _ _) rfl ?_
          have hpe : p - a = j - m := by omega
          rw [hpe] at HE
          obtain ⟨hdd, hA, hYb, _⟩ := HD.out
          have hdY : d.toList = (A ++ [x]) ++ (Y ++ Q) := by rw [hdd]; simp
          have g : ∀ q (hq : q < Y.length), d[m + q]! = Y[q] := fun q hq => nth_at (A := (A ++ [x]) ++ Y.take q) (B := Y.drop (q + 1) ++ Q) (by
            rw [hdY, List.append_assoc _ (Y.take q), ← List.cons_append, ← List.drop_eq_getElem_cons hq, ← List.append_assoc (Y.take q), List.take_append_drop]) (by simp; omega)
          have hlo : ∀ y ∈ Y.take (j - m), Go.Proofs.ltOf cf y x = true := fun y hy => by
            obtain ⟨q, hq, rfl⟩ := List.getElem_of_mem hy
            rw [List.getElem_take, ← g q (by simp at hq; omega)]
            exact HI.out _ (by omega) (by simp at hq; omega)
          have hhi : ∀ y ∈ Y.drop (j - m), Go.Proofs.ltOf cf y x = false := fun y hy => by
            obtain ⟨q, hq, rfl⟩ := List.getElem_of_mem hy
            rw [List.getElem_drop, ← g _ (by simp at hq; omega)]
            exact HJ.out _ (by omega) (by simp at hq; omega)
          have hYs : Srt (Go.Proofs.ltOf cf) (Y.take (j - m) ++ Y.drop (j - m)) := by rw [List.take_append_drop]; exact HY.out
          have hM := merge_step (X1 := []) (X2 := [x]) (Z1 := Y.take (j - m)) (Z2 := x :: Y.drop (j - m)) OO.out (by simp [Srt]) hYs (fun z hz y hy => by rw [List.mem_singleton] at hz; rw [hz]; exact hlo y hy) (fun z hz => by cases hz)
            ((List.pairwise_append.1 hYs).1) (by simpa using Stb.refl) (List.pairwise_cons.2 ⟨hhi, (List.pairwise_append.1 hYs).2.1⟩) (by simpa using Stb.refl)
          refine ⟨rfl, dk, Y.take (j - m) ++ x :: Y.drop (j - m), by rw [HE.out]; simp, hM.1, ?_, S1.out⟩
          have := hM.2
          rw [List.take_append_drop] at this
          simpa using this
set_option maxHeartbeats 8000000 in
set_option maxRecDepth 1000000 in
/-- The right run is one element, the left one is longer. -/
theorem symR_IDE {k : Nat} (L : LaysIDE P k) (enc : α → List Value) (cf : α → α → Int) (O : SWO (Go.Proofs.ltOf cf)) (g : Nat) (cb : Array Value) (blk off cap a m b : Nat) (d0 d : Array α) (w0 w : World) (eg : ∀ args w, (callFunc g args).run P w = .ok (.enter g args) w) (hcmp : CmpLays P g cb enc k cf blk off d0.size w0) (R : RowK enc k w0 blk off d0) (hs : d0.size = d.size) (S : SWK enc k w0 blk off d w)
    (A X Q : List α) (y : α) (hd : d.toList = A ++ (X ++ (y :: Q))) (ha : A.length = a) (hm : a + X.length = m) (hX2 : 1 < X.length) (hb : m + 1 = b) (hX : Srt (Go.Proofs.ltOf cf) X) (hsz : d.size < 4611686018427387904) :
    Calls P 76 #[.slice (some ⟨blk, off, none⟩) d.size cap, .int .i64 a, .int .i64 m, .int .i64 b, .func (.func g) #[] cb] w fun e w' =>
      e = .returned (.tuple #[]) ∧ ∃ (d' : Array α) (Z : List α), d'.toList = A ++ (Z ++ Q) ∧ Srt (Go.Proofs.ltOf cf) Z ∧ Stb (Go.Proofs.ltOf cf) (X ++ [y]) Z ∧ SWK enc k w0 blk off d' w' := by
  obtain ⟨mixed, aE, zE, tU, aU, zU, vU, tI, aI, zI, vI, tB, aB, zB, vB, tS, aS, zS, vS, tF, aF, zF, vF, tN, aN, zN, vN, fSw, fRo, fSy⟩ := L
  have HC : Aside _ := hcmp
  have S0 : Aside (SWK enc k w0 blk off d w) := S
  have hdl : d.size = b + Q.length := by rw [← Array.length_toList, hd]; simp; omega
  have hle : ∀ p q, a ≤ p → p ≤ q → q < m → Go.Proofs.ltOf cf d[q]! d[p]! = false := fun p q h1 h2 h3 => srt_le O (A := A) (B := X) (C := y :: Q) hd hX (by omega) h2 (by omega)
  have hym : d[m]! = y := nth_at (A := A ++ X) (B := Q) (by rw [hd]; simp) (by simp; omega)
  have HLE : Aside (∀ p q, a ≤ p → p ≤ q → q < m → Go.Proofs.ltOf cf d[q]! d[p]! = false) := hle
  have HX : Hid (d[m]! = y) := hym
  have HD : Hid (d.toList = A ++ (X ++ (y :: Q)) ∧ A.length = a ∧ a + X.length = m ∧ d.size = b + Q.length) := ⟨hd, ha, hm, hdl⟩
  have HXs : Aside (Srt (Go.Proofs.ltOf cf) X) := hX
  have OO : Aside (SWO (Go.Proofs.ltOf cf)) := O
  have ham : a + 1 < m := by omega
  have hmd : m < d.size := by omega
  have hone : ((m : Int) - (a : Int) == 1) = false := by rw [beq_eq_false_iff_ne]; omega
  have hone2 : (b : Int) - (m : Int) = 1 := by omega
  have hmb : m < b := by omega
  have hbd : b ≤ d.size := by omega
  clear S hcmp hle hym hd hdl ha hb hX O hm hX2
  go_enter fSy, Try.ntmps76
  go_wp2
  go_loopg [14, 15] (m - a) (fun kx s10 s11 wr => ∃ (i j : Nat), s10 = .int .i64 i ∧ s11 = .int .i64 j ∧ a ≤ i ∧ i ≤ j ∧ j ≤ m ∧ j - i ≤ kx ∧ Aside (SWK enc k w0 blk off d wr) ∧ Aside (∀ q, a ≤ q → q < i → Go.Proofs.ltOf cf y d[q]! = false) ∧ Aside (∀ q, j ≤ q → q < m → Go.Proofs.ltOf cf y d[q]! = true))
  case atStart => exact ⟨a, m, rfl, rfl, Nat.le_refl _, by omega, Nat.le_refl _, by omega, S0, fun q h1 h2 => by omega, fun q h1 h2 => by omega⟩
  case round =>
    clear S0
    obtain ⟨i, j, rfl, rfl, hmi, hij, hjb, hkx, S1, HI, HJ⟩ := hrel
    by_cases hlt : i < j
    · have hz : (i : Int) < (j : Int) := by omega
      obtain ⟨h, hh⟩ : ∃ h : Nat, h = (i + j) / 2 := ⟨_, rfl⟩
      have e1 : IntKind.i64.wrap ((i : Int) + (j : Int)) = (i : Int) + (j : Int) := by rw [IntKind.wrap_i64]; omega
      have e2 : IntKind.u64.wrap ((i : Int) + (j : Int)) = (i : Int) + (j : Int) := by rw [IntKind.wrap_u64]; omega
      go_upto_region 17 with fail
      have eh : ((i : Int) + (j : Int)) / 2 = (h : Int) := by omega
      simp only [eh]
      have hih : i ≤ h := by omega
      have hhj : h < j := by omega
      clear eh e1 e2 hh
      have HI' := HI.out
      have HJ' := HJ.out
      have ea49 : ((m : Int)).toNat = m := by omega
      have pa49 : (0 : Int) ≤ (m : Int) := by omega
      have ba49 : (m : Int) < (d.size : Int) := by omega
      have ra49 : IntKind.i64.wrap ((m : Int)) = (m : Int) := by rw [IntKind.wrap_i64]; omega
      have ec49 : ((h : Int)).toNat = h := by omega
      have pc49 : (0 : Int) ≤ (h : Int) := by omega
      have bc49 : (h : Int) < (d.size : Int) := by omega
      have rc49 : IntKind.i64.wrap ((h : Int)) = (h : Int) := by rw [IntKind.wrap_i64]; omega
      obtain ⟨x49, hx49⟩ : ∃ x, x = d[m]! := ⟨_, rfl⟩
      obtain ⟨y49, hy49⟩ : ∃ x, x = d[h]! := ⟨_, rfl⟩
      have l49a := S1.out.ld R (by omega) P (m) (by omega)
      have l49b := S1.out.ld R (by omega) P (h) (by omega)
      rw [← hx49] at l49a
      rw [← hy49] at l49b
      have hc49 := S1.out.cmp HC.out (by omega) x49 y49
      have hxx : x49 = y := by rw [hx49]; exact HX.out
      subst hxx
      by_cases hL : cf x49 y49 < 0
      · have hd49 : decide (cf x49 y49 < 0) = true := decide_eq_true hL
        have hlt2 : Go.Proofs.ltOf cf x49 d[h]! = true := by rw [← hy49]; exact hd49
        have HJ2 : Aside (∀ q, h ≤ q → q < m → Go.Proofs.ltOf cf x49 d[q]! = true) := fun q h1 h2 => by
          cases hq : Go.Proofs.ltOf cf x49 d[q]! with
          | true => rfl
          | false => have := OO.out.ntrans _ _ _ hq (HLE.out h q (by omega) h1 h2); rw [hlt2] at this; cases this
        clear HJ HI' HJ' hlt2
        clear hx49 hy49
        go_wp2_with fail
        go_quiet_grown (first | (go_at_fn g; refine Calls.grown_of (hc49 _ _)))
        have S2 : Aside (SWK enc k w0 blk off d (grow (wr.drewN nq) osq)) := S1.out.grown nq osq
        clear l49a l49b hc49 S1
        generalize grow (wr.drewN nq) osq = w2 at S2 ⊢
        clear nq osq
        go_wp2
        go_roundg (h - i)
        case measure => omega
        case rel => exact ⟨i, h, rfl, rfl, hmi, by omega, by omega, Nat.le_refl _, S2, HI, HJ2⟩
      · have hd49 : decide (cf x49 y49 < 0) = false := decide_eq_false hL
        have hlt2 : Go.Proofs.ltOf cf x49 d[h]! = false := by rw [← hy49]; exact hd49
        have HI2 : Aside (∀ q, a ≤ q → q < h + 1 → Go.Proofs.ltOf cf x49 d[q]! = false) := fun q h1 h2 => OO.out.ntrans _ _ _ hlt2 (HLE.out q h h1 (by omega) (by omega))
        clear HI HI' HJ' hlt2
        clear hx49 hy49
        go_wp2_with fail
        go_quiet_grown (first | (go_at_fn g; refine Calls.grown_of (hc49 _ _)))
        have S2 : Aside (SWK enc k w0 blk off d (grow (wr.drewN nq) osq)) := S1.out.grown nq osq
        clear l49a l49b hc49 S1
        generalize grow (wr.drewN nq) osq = w2 at S2 ⊢
        clear nq osq
        go_wp2
        go_roundg (j - (h + 1))
        case measure => omega
        case rel => exact ⟨h + 1, j, by go_num, rfl, by omega, by omega, hjb, Nat.le_refl _, S2, HI2, HJ⟩
    · have hz : ¬ (i : Int) < (j : Int) := by omega
      have hji : j = i := by omega
      subst hji
      have HS0 : Hid (d.toList = A ++ (X.take (m - a) ++ (y :: (X.drop (m - a) ++ Q)))) := by
        show _ = _
        obtain ⟨e1, e2, e3, e4⟩ := HD.out
        rw [e1, List.take_of_length_le (by omega), List.drop_eq_nil_of_le (by omega)]; simp
      go_wp2
      go_loopg [17] (m - j) (fun kx s13 wr => ∃ (p : Nat) (dk : Array α), s13 = .int .i64 p ∧ j ≤ p ∧ p ≤ m ∧ p - j ≤ kx ∧ dk.size = d.size ∧ Aside (SWK enc k w0 blk off dk wr) ∧ Hid (dk.toList = A ++ (X.take (p - a) ++ (y :: (X.drop (p - a) ++ Q)))))
      case atStart => exact ⟨m, d, rfl, hjb, Nat.le_refl _, Nat.le_refl _, rfl, S1, HS0⟩
      case round =>
        clear S1 HS0
        obtain ⟨p, dk, rfl, hap, hpj, hkx2, hds, S1, HE⟩ := hrel
        by_cases hlt2 : j < p
        · obtain ⟨q, rfl⟩ : ∃ q, p = q + 1 := ⟨p - 1, by omega⟩
          have hz2 : (j : Int) < (q : Int) + 1 := by omega
          go_wp2_with fail
          have ea71 : ((q : Int) + 1).toNat = q + 1 := by omega
          have pa71 : (0 : Int) ≤ (q : Int) + 1 := by omega
          have ba71 : (q : Int) + 1 < (d.size : Int) := by omega
          have ra71 : IntKind.i64.wrap ((q : Int) + 1) = (q : Int) + 1 := by rw [IntKind.wrap_i64]; omega
          have ec71 : ((q : Int)).toNat = q := by omega
          have pc71 : (0 : Int) ≤ (q : Int) := by omega
          have bc71 : (q : Int) < (d.size : Int) := by omega
          have rc71 : IntKind.i64.wrap ((q : Int)) = (q : Int) := by rw [IntKind.wrap_i64]; omega
          have S2 : Aside (SWK enc k w0 blk off (swp dk (q + 1) (q)) ((wr.drew.setCells blk (off + (q + 1) * k) (enc dk[q]!)).setCells blk (off + (q) * k) (enc dk[q + 1]!))) := S1.out.swapped R (q + 1) (q) (by omega) (by omega)
          have l71a := S1.out.ld1 R (by omega) P (q + 1) (by omega)
          have l71b := S1.out.ld1 R (by omega) P (q) (by omega)
          have s71a := S1.out.st1 R (by omega) P (q + 1) (by omega) dk[q]!
          have s71b := S1.out.st2 R (by omega) P (q + 1) (q) (by omega) (by omega) dk[q]! dk[q + 1]!
          have n71a : (enc dk[q + 1]!).length = k := R.hk _
          have n71b : (enc dk[q]!).length = k := R.hk _
          generalize enc dk[q + 1]! = cI71 at S2 l71a s71b n71a
          generalize enc dk[q]! = cJ71 at S2 l71b s71a s71b n71b
          clear S1
          go_wp2_with fail
          go_big_region_o
          clear l71a l71b s71a s71b
          generalize (wr.drew.setCells blk (off + (q + 1) * k) cJ71).setCells blk (off + (q) * k) cI71 = w2 at S2 ⊢
          go_wp2
          go_roundg (q - j)
          case measure => omega
          case rel =>
            refine ⟨q, swp dk (q + 1) q, by go_num, by omega, by omega, Nat.le_refl _, by rw [size_swp]; exact hds, S2, ?_⟩
            show _ = _
            obtain ⟨_, hA, hXb, _⟩ := HD.out
            have hpX : q - a < X.length := by omega
            have e : dk.toList = (A ++ X.take (q - a)) ++ X[q - a] :: ([] ++ y :: (X.drop (q - a + 1) ++ Q)) := by
              rw [HE.out, show q + 1 - a = q - a + 1 by omega, List.take_add_one, List.getElem?_eq_getElem hpX]; simp only [List.append_assoc, List.cons_append, List.nil_append, Option.toList_some]
            rw [swp_list' e (by simp; omega) (by simp; omega), List.drop_eq_getElem_cons hpX]
            simp only [List.append_assoc, List.cons_append, List.nil_append]
        · have hz2 : ¬ (j : Int) < (p : Int) := by omega
          go_wp2
          (try simp only [Exit.inBlock, Exit.then])
          refine bodyPost_ret (results_none rfl _ _ _) rfl ?_
          have hpe : p = j := by omega
          rw [hpe] at HE
          obtain ⟨hdd, hA, hXb, _⟩ := HD.out
          have g : ∀ q (hq : q < X.length), d[a + q]! = X[q] := fun q hq => nth_at (A := A ++ X.take q) (B := X.drop (q + 1) ++ y :: Q) (by
            rw [hdd, List.append_assoc _ (X.take q), ← List.cons_append, ← List.drop_eq_getElem_cons hq, ← List.append_assoc (X.take q), List.take_append_drop]) (by simp; omega)
          have hlo : ∀ x ∈ X.take (j - a), Go.Proofs.ltOf cf y x = false := fun x hx => by
            obtain ⟨q, hq, rfl⟩ := List.getElem_of_mem hx
            rw [List.getElem_take, ← g q (by simp at hq; omega)]
            exact HI.out _ (by omega) (by simp at hq; omega)
          have hhi : ∀ x ∈ X.drop (j - a), Go.Proofs.ltOf cf y x = true := fun x hx => by
            obtain ⟨q, hq, rfl⟩ := List.getElem_of_mem hx
            rw [List.getElem_drop, ← g _ (by simp at hq; omega)]
            exact HJ.out _ (by omega) (by simp at hq; omega)
          have hM := insert_step (y := y) (X1 := X.take (j - a)) (X2 := X.drop (j - a)) OO.out (by rw [List.take_append_drop]; exact HXs.out) hhi hlo
          rw [List.take_append_drop] at hM
          exact ⟨rfl, dk, X.take (j - a) ++ y :: X.drop (j - a), by rw [HE.out]; simp, hM.1, hM.2, S1.out⟩
end Go.Proofs.Ytffnogjgnpbjlaa

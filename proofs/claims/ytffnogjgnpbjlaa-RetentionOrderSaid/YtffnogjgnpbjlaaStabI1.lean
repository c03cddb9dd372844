/-
  Contracts of the functions of this seat that each theorem names: what a call returns, and that it writes nothing that was there before. The conditions stand in each theorem.
-/
import Derived.Test.YtffnogjgnpbjlaaStabPlain
import Derived.Test.YtffnogjgnpbjlaaRows
import Derived.Test.YtffnogjgnpbjlaaGrp14
import Derived.Shelf.SlSortCmp.KitK
import Derived.Sort.WalkB2
import Derived.Sort.WalkB12
import Derived.Deep.LoopGhost
set_option linter.unusedSimpArgs false
set_option linter.unusedVariables false
namespace Go.Proofs.Ytffnogjgnpbjlaa
open Go.RowKit Go.Shelf Go.Lib Go.Sort
variable {P : Program} {α : Type} [Inhabited α]
/-- What the walks ask of a program: the three functions' bodies, their types; an element has k cells. -/
structure LaysIDE (P : Program) (k : Nat) : Prop where
  mixed : P.follows .mixedOrders = true
  aE : ∀ w, (isAgg 46).run P w = .ok true w
  zE : ∀ w, (Go.sizeOf 46).run P w = .ok k w
  tU : P.underlying 0 = some (TypeDesc.tuple #[])
  aU : ∀ w, (isAgg 0).run P w = .ok false w
  zU : ∀ w, (Go.sizeOf 0).run P w = .ok 1 w
  vU : ∀ w, (zeroValue 0).run P w = .ok (Value.tuple #[]) w
  tI : P.underlying 3 = some (TypeDesc.int IntKind.i64)
  aI : ∀ w, (isAgg 3).run P w = .ok false w
  zI : ∀ w, (Go.sizeOf 3).run P w = .ok 1 w
  vI : ∀ w, (zeroValue 3).run P w = .ok (Value.int IntKind.i64 0) w
  tB : P.underlying 4 = some TypeDesc.bool
  aB : ∀ w, (isAgg 4).run P w = .ok false w
  zB : ∀ w, (Go.sizeOf 4).run P w = .ok 1 w
  vB : ∀ w, (zeroValue 4).run P w = .ok (Value.bool false) w
  tS : P.underlying 25 = some (TypeDesc.slice 46)
  aS : ∀ w, (isAgg 25).run P w = .ok false w
  zS : ∀ w, (Go.sizeOf 25).run P w = .ok 1 w
  vS : ∀ w, (zeroValue 25).run P w = .ok (Value.slice none 0 0) w
  tF : P.underlying 49 = some (TypeDesc.func #[46, 46] #[3] false)
  aF : ∀ w, (isAgg 49).run P w = .ok false w
  zF : ∀ w, (Go.sizeOf 49).run P w = .ok 1 w
  vF : ∀ w, (zeroValue 49).run P w = .ok Value.nilFunc w
  tN : P.underlying 99 = some (TypeDesc.int IntKind.u64)
  aN : ∀ w, (isAgg 99).run P w = .ok false w
  zN : ∀ w, (Go.sizeOf 99).run P w = .ok 1 w
  vN : ∀ w, (zeroValue 99).run P w = .ok (Value.int IntKind.u64 0) w
  fSw : P.funcs[106]? = some Try.f106
  fRo : P.funcs[97]? = some Try.f97
  fSy : P.funcs[76]? = some Try.f76
theorem laysIDE : LaysIDE Try.prog 2 := ⟨by kernel_rfl, Try.isAgg46, Try.sizeOf46, Try.underlying0, Try.isAgg0, Try.sizeOf0, Try.zeroValue0, Try.underlying3, Try.isAgg3, Try.sizeOf3, Try.zeroValue3, Try.underlying4, Try.isAgg4, Try.sizeOf4, Try.zeroValue4,
  Try.underlying25, Try.isAgg25, Try.sizeOf25, Try.zeroValue25, Try.underlying49, Try.isAgg49, Try.sizeOf49, Try.zeroValue49, Try.underlying99, Try.isAgg99, Try.sizeOf99, Try.zeroValue99,
  Try.func106, Try.func97, Try.func76⟩
set_option maxHeartbeats 4000000 in
set_option maxRecDepth 1000000 in
theorem swapRange_IDE {k : Nat} (L : LaysIDE P k) (enc : α → List Value) (g : Nat) (cb : Array Value) (blk off cap a b n : Nat) (d0 d : Array α) (w0 w : World) (R : RowK enc k w0 blk off d0) (hs : d0.size = d.size) (S : SWK enc k w0 blk off d w)
    (A U M V Q : List α) (hd : d.toList = A ++ (U ++ (M ++ (V ++ Q)))) (hV : V.length = n) (hU : U.length = n) (ha : A.length = a) (hb : a + n + M.length = b) (hsz : d.size < 4611686018427387904) :
    Calls P 106 #[.slice (some ⟨blk, off, none⟩) d.size cap, .int .i64 a, .int .i64 b, .int .i64 n, .func (.func g) #[] cb] w fun e w' =>
      e = .returned (.tuple #[]) ∧ ∃ d' : Array α, d'.toList = A ++ (V ++ (M ++ (U ++ Q))) ∧ SWK enc k w0 blk off d' w' := by
  obtain ⟨mixed, aE, zE, tU, aU, zU, vU, tI, aI, zI, vI, tB, aB, zB, vB, tS, aS, zS, vS, tF, aF, zF, vF, tN, aN, zN, vN, fSw, fRo, fSy⟩ := L
  have S0 : Aside (SWK enc k w0 blk off d w) := S
  have hdl : d.size = a + n + M.length + n + Q.length := by rw [← Array.length_toList, hd]; simp; omega
  have HD : Hid (d.toList = A ++ (U ++ (M ++ (V ++ Q)))) := hd
  clear S hd
  have HL : Hid (A.length = a ∧ U.length = n ∧ V.length = n ∧ a + n + M.length = b) := ⟨ha, hU, hV, hb⟩
  have hab : a + n ≤ b := by omega
  have hbn : b + n ≤ d.size := by omega
  clear ha hU hV hb hdl
  go_enter fSw, Try.ntmps106
  go_wp2
  go_loopg [10] n (fun kx s10 wr => ∃ (i : Nat) (dk : Array α), s10 = .int .i64 i ∧ i ≤ n ∧ n - i ≤ kx ∧ dk.size = d.size ∧ Aside (SWK enc k w0 blk off dk wr) ∧ Hid (dk.toList = A ++ (V.take i ++ (U.drop i ++ (M ++ (U.take i ++ (V.drop i ++ Q)))))))
  case atStart => exact ⟨0, d, rfl, Nat.zero_le _, Nat.le_refl _, rfl, S0, by show _ = _; rw [HD.out]; simp⟩
  case round =>
    clear S0
    obtain ⟨i, dk, rfl, hi, hkx, hds, S1, HE⟩ := hrel
    by_cases hlt : i < n
    · have hz : (i : Int) < (n : Int) := by omega
      go_wp2_with fail
      have ea31 : ((a : Int) + (i : Int)).toNat = a + i := by omega
      have pa31 : (0 : Int) ≤ (a : Int) + (i : Int) := by omega
      have ba31 : (a : Int) + (i : Int) < (d.size : Int) := by omega
      have ra31 : IntKind.i64.wrap ((a : Int) + (i : Int)) = (a : Int) + (i : Int) := by rw [IntKind.wrap_i64]; omega
      have ec31 : ((b : Int) + (i : Int)).toNat = b + i := by omega
      have pc31 : (0 : Int) ≤ (b : Int) + (i : Int) := by omega
      have bc31 : (b : Int) + (i : Int) < (d.size : Int) := by omega
      have rc31 : IntKind.i64.wrap ((b : Int) + (i : Int)) = (b : Int) + (i : Int) := by rw [IntKind.wrap_i64]; omega
      have S2 : Aside (SWK enc k w0 blk off (swp dk (a + i) (b + i)) ((wr.drew.setCells blk (off + (a + i) * k) (enc dk[b + i]!)).setCells blk (off + (b + i) * k) (enc dk[a + i]!))) := S1.out.swapped R (a + i) (b + i) (by omega) (by omega)
      have l31a := S1.out.ld1 R (by omega) P (a + i) (by omega)
      have l31b := S1.out.ld1 R (by omega) P (b + i) (by omega)
      have s31a := S1.out.st1 R (by omega) P (a + i) (by omega) dk[b + i]!
      have s31b := S1.out.st2 R (by omega) P (a + i) (b + i) (by omega) (by omega) dk[b + i]! dk[a + i]!
      have n31a : (enc dk[a + i]!).length = k := R.hk _
      have n31b : (enc dk[b + i]!).length = k := R.hk _
      generalize enc dk[a + i]! = cI31 at S2 l31a s31b n31a
      generalize enc dk[b + i]! = cJ31 at S2 l31b s31a s31b n31b
      clear S1
      go_wp2_with fail
      go_big_region_o
      clear l31a l31b s31a s31b
      generalize (wr.drew.setCells blk (off + (a + i) * k) cJ31).setCells blk (off + (b + i) * k) cI31 = w2 at S2 ⊢
      go_wp2
      go_roundg (n - (i + 1))
      case measure => omega
      case rel =>
        refine ⟨i + 1, swp dk (a + i) (b + i), by go_num, by omega, Nat.le_refl _, by rw [size_swp]; exact hds, S2, ?_⟩
        show _ = _
        obtain ⟨hA, hU, hV, hb⟩ := HL.out
        have hiU : i < U.length := by omega
        have hiV : i < V.length := by omega
        have e : dk.toList = (A ++ V.take i) ++ U[i] :: ((U.drop (i + 1) ++ (M ++ U.take i)) ++ V[i] :: (V.drop (i + 1) ++ Q)) := by
          rw [HE.out, List.drop_eq_getElem_cons hiU, List.drop_eq_getElem_cons hiV]; simp only [List.append_assoc, List.cons_append]
        rw [swp_list e (by simp; omega) (by simp; omega), List.take_add_one, List.take_add_one, List.getElem?_eq_getElem hiU, List.getElem?_eq_getElem hiV]
        simp only [List.append_assoc, List.cons_append, Option.toList_some, List.nil_append]
    · have hz : ¬ (i : Int) < (n : Int) := by omega
      go_wp2
      go_end0
      obtain ⟨hA, hU, hV, hb⟩ := HL.out
      refine ⟨rfl, dk, ?_, S1.out⟩
      rw [HE.out, List.take_of_length_le (by omega), List.take_of_length_le (by omega), List.drop_eq_nil_of_le (by omega), List.drop_eq_nil_of_le (by omega)]
      simp
set_option maxHeartbeats 4000000 in
set_option maxRecDepth 1000000 in
theorem rotate_IDE {k : Nat} (L : LaysIDE P k) (enc : α → List Value) (g : Nat) (cb : Array Value) (blk off cap a m b : Nat) (d0 d : Array α) (w0 w : World) (R : RowK enc k w0 blk off d0) (hs : d0.size = d.size) (S : SWK enc k w0 blk off d w)
    (A X Y Q : List α) (hd : d.toList = A ++ (X ++ (Y ++ Q))) (ha : A.length = a) (hm : a + X.length = m) (hb : m + Y.length = b) (hX : 0 < X.length) (hY : 0 < Y.length) (hsz : d.size < 4611686018427387904) :
    Calls P 97 #[.slice (some ⟨blk, off, none⟩) d.size cap, .int .i64 a, .int .i64 m, .int .i64 b, .func (.func g) #[] cb] w fun e w' =>
      e = .returned (.tuple #[]) ∧ ∃ d' : Array α, d'.toList = A ++ (Y ++ (X ++ Q)) ∧ SWK enc k w0 blk off d' w' := by
  have HCALL := fun (a b n : Nat) (d : Array α) (w : World) hs S A U M V Q hd hV hU ha hb hsz => swapRange_IDE L enc g cb blk off cap a b n d0 d w0 w R hs S A U M V Q hd hV hU ha hb hsz
  have HCL : Aside _ := HCALL
  clear HCALL
  obtain ⟨mixed, aE, zE, tU, aU, zU, vU, tI, aI, zI, vI, tB, aB, zB, vB, tS, aS, zS, vS, tF, aF, zF, vF, tN, aN, zN, vN, fSw, fRo, fSy⟩ := L
  have eSw : ∀ args w, (callFunc 106 args).run P w = .ok (.enter 106 args) w := enters_of fSw (by kernel_rfl) rfl
  have S0 : Aside (SWK enc k w0 blk off d w) := S
  have hdl : d.size = b + Q.length := by rw [← Array.length_toList, hd]; simp; omega
  have HD : Hid (d.toList = A ++ (X ++ (Y ++ Q))) := hd
  obtain ⟨i0, hi0⟩ : ∃ i0, X.length = i0 := ⟨_, rfl⟩
  obtain ⟨j0, hj0⟩ : ∃ j0, Y.length = j0 := ⟨_, rfl⟩
  have hmi : m = a + i0 := by omega
  have hbj : b = a + i0 + j0 := by omega
  subst hmi hbj
  have hXi : 0 < i0 := by omega
  have hYj : 0 < j0 := by omega
  have hbd : a + i0 + j0 ≤ d.size := by omega
  have HN : Hid (X.length = i0 ∧ Y.length = j0 ∧ A.length = a ∧ d.size = a + i0 + j0 + Q.length) := ⟨hi0, hj0, ha, hdl⟩
  clear S hd hi0 hj0 ha hm hb hX hY hdl
  have hiz : ((a + i0 : Nat) : Int) - (a : Int) = (i0 : Int) := by omega
  have hjz : ((a + i0 + j0 : Nat) : Int) - ((a + i0 : Nat) : Int) = (j0 : Int) := by omega
  generalize hMz : ((a + i0 : Nat) : Int) = mz at hiz hjz ⊢
  generalize hBz : ((a + i0 + j0 : Nat) : Int) = bz at hjz ⊢
  have HZ : Hid (((a + i0 : Nat) : Int) = mz ∧ ((a + i0 + j0 : Nat) : Int) = bz) := ⟨hMz, hBz⟩
  clear hMz hBz
  go_enter fRo, Try.ntmps97
  go_wp2
  go_loopg [10, 11] (i0 + j0) (fun kx s10 s11 wr => ∃ (i j : Nat) (dk : Array α) (B U V C : List α), s10 = .int .i64 i ∧ s11 = .int .i64 j ∧ 0 < i ∧ 0 < j ∧ i + j ≤ kx ∧ kx ≤ i0 + j0 ∧ Hid (U.length = i ∧ V.length = j ∧ B.length + i = a + i0 ∧ a + i0 + j + C.length = d.size ∧ dk.size = d.size) ∧ Aside (SWK enc k w0 blk off dk wr) ∧ Hid (dk.toList = B ++ (U ++ (V ++ C))) ∧ Hid (B ++ (V ++ (U ++ C)) = A ++ (Y ++ (X ++ Q))))
  case atStart => exact ⟨i0, j0, d, A, X, Y, Q, rfl, rfl, hXi, hYj, Nat.le_refl _, Nat.le_refl _, (by obtain ⟨a1, a2, a3, a4⟩ := HN.out; exact ⟨a1, a2, by omega, by omega, rfl⟩), S0, HD, rfl⟩
  case round =>
    clear S0
    obtain ⟨i, j, dk, B, U, V, C, rfl, rfl, hi, hj, hkx, hkn, HL, S1, HE, HG⟩ := hrel
    have hms : (a + i0) + j ≤ d.size ∧ i ≤ a + i0 := by obtain ⟨a1, a2, a3, a4, a5⟩ := HL.out; omega
    have him : (((a + i0 - i : Nat) : Int)) = mz - (i : Int) := by have := HZ.out.1; omega
    have hds : dk.size = d.size := HL.out.2.2.2.2
    have ew1 : IntKind.i64.wrap (mz - (i : Int)) = mz - (i : Int) := by have := HZ.out.1; rw [IntKind.wrap_i64]; omega
    by_cases hij : i = j
    · subst hij
      have hz : ((i : Int) != (i : Int)) = false := by simp
      have hcall : Calls P 106 #[.slice (some ⟨blk, off, none⟩) d.size cap, .int .i64 (mz - (i : Int)), .int .i64 mz, .int .i64 i, .func (.func g) #[] cb] wr fun e w' => e = .returned (.tuple #[]) ∧ ∃ d' : Array α, d'.toList = B ++ (V ++ ([] ++ (U ++ C))) ∧ SWK enc k w0 blk off d' w' := by
        obtain ⟨a1, a2, a3, a4, a5⟩ := HL.out
        have h := HCL.out (a + i0 - i) (a + i0) i dk wr (by omega) S1.out B U [] V C (by rw [HE.out]; simp) (by omega) a1 (by omega) (by simp; omega) (by omega)
        rw [hds, him, HZ.out.1] at h
        exact h
      clear S1
      go_wp2_with (go_at_fn 106; refine hcall.mono ?_; rintro e w1 ⟨rfl, d2, hd2, S2⟩)
      go_end0
      refine ⟨rfl, d2, ?_, S2⟩
      rw [hd2, ← HG.out]; simp
    · have hz : ((i : Int) != (j : Int)) = true := by simp; omega
      by_cases hgt : j < i
      · have hz2 : (j : Int) < (i : Int) := by omega
        have hcall : Calls P 106 #[.slice (some ⟨blk, off, none⟩) d.size cap, .int .i64 (mz - (i : Int)), .int .i64 mz, .int .i64 j, .func (.func g) #[] cb] wr fun e w' => e = .returned (.tuple #[]) ∧ ∃ d' : Array α, d'.toList = B ++ (V ++ (U.drop j ++ (U.take j ++ C))) ∧ SWK enc k w0 blk off d' w' := by
          obtain ⟨a1, a2, a3, a4, a5⟩ := HL.out
          have h := HCL.out (a + i0 - i) (a + i0) j dk wr (by omega) S1.out B (U.take j) (U.drop j) V C (by rw [HE.out, ← List.append_assoc (U.take j), List.take_append_drop]) a2 (by simp; omega) (by omega) (by simp; omega) (by omega)
          rw [hds, him, HZ.out.1] at h
          exact h
        clear S1
        go_wp2_with (go_at_fn 106; refine hcall.mono ?_; rintro e w1 ⟨rfl, d2, hd2, S2⟩)
        go_roundg (i - j + j)
        case measure => omega
        case rel =>
          have hl2 : d2.size = d.size := by obtain ⟨a1, a2, a3, a4, a5⟩ := HL.out; rw [← Array.length_toList, hd2]; simp; omega
          exact ⟨i - j, j, d2, B ++ V, U.drop j, U.take j, C, by congr 1; omega, rfl, by omega, hj, Nat.le_refl _, by omega, (by obtain ⟨a1, a2, a3, a4, a5⟩ := HL.out; exact ⟨by simp; omega, by simp; omega, by simp; omega, by omega, hl2⟩), S2, (show Hid _ by show _ = _; rw [hd2]; simp only [List.append_assoc]), (show Hid _ by show _ = _; rw [← HG.out, ← List.append_assoc (U.take j), List.take_append_drop, List.append_assoc])⟩
      · have hz2 : ¬ (j : Int) < (i : Int) := by omega
        have him2 : (((a + i0 + j - i : Nat) : Int)) = mz + (j : Int) - (i : Int) := by have := HZ.out.1; omega
        have ew2 : IntKind.i64.wrap (mz + (j : Int)) = mz + (j : Int) := by have := HZ.out.1; rw [IntKind.wrap_i64]; omega
        have ew3 : IntKind.i64.wrap (mz + (j : Int) - (i : Int)) = mz + (j : Int) - (i : Int) := by have := HZ.out.1; rw [IntKind.wrap_i64]; omega
        have hcall : Calls P 106 #[.slice (some ⟨blk, off, none⟩) d.size cap, .int .i64 (mz - (i : Int)), .int .i64 (mz + (j : Int) - (i : Int)), .int .i64 i, .func (.func g) #[] cb] wr fun e w' => e = .returned (.tuple #[]) ∧ ∃ d' : Array α, d'.toList = B ++ (V.drop (j - i) ++ (V.take (j - i) ++ (U ++ C))) ∧ SWK enc k w0 blk off d' w' := by
          obtain ⟨a1, a2, a3, a4, a5⟩ := HL.out
          have h := HCL.out (a + i0 - i) (a + i0 + j - i) i dk wr (by omega) S1.out B U (V.take (j - i)) (V.drop (j - i)) C (by rw [HE.out, ← List.append_assoc (V.take (j - i)), List.take_append_drop]) (by simp; omega) a1 (by omega) (by simp; omega) (by omega)
          rw [hds, him, him2] at h
          exact h
        clear S1
        go_wp2_with (go_at_fn 106; refine hcall.mono ?_; rintro e w1 ⟨rfl, d2, hd2, S2⟩)
        go_roundg (i + (j - i))
        case measure => omega
        case rel =>
          have hl2 : d2.size = d.size := by obtain ⟨a1, a2, a3, a4, a5⟩ := HL.out; rw [← Array.length_toList, hd2]; simp; omega
          exact ⟨i, j - i, d2, B, V.drop (j - i), V.take (j - i), U ++ C, rfl, by congr 1; omega, hi, by omega, Nat.le_refl _, by omega, (by obtain ⟨a1, a2, a3, a4, a5⟩ := HL.out; exact ⟨by simp; omega, by simp; omega, by omega, by simp; omega, hl2⟩), S2, hd2, (show Hid _ by show _ = _; rw [← HG.out, ← List.append_assoc (V.take (j - i)), List.take_append_drop])⟩
end Go.Proofs.Ytffnogjgnpbjlaa

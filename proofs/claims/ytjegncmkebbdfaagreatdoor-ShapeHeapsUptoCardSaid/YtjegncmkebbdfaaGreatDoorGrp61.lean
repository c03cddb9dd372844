/-
  Small texts of this seat, put into one. Conditions stand in each theorem.
-/
import Derived.Test.YtjegncmkebbdfaaGreatDoorStabN3
import Derived.Ground.SlsfProg
set_option linter.unusedSimpArgs false
set_option linter.unusedVariables false
namespace Go.Proofs.YtjegncmkebbdfaaGreatDoor
open Go.RowKit Go.Shelf Go.Lib Go.Sort
variable {P : Program} {α : Type} [Inhabited α]
/-- slices.symMergeCmpFunc: two neighbouring runs become one. -/
theorem sym_NodeE {k : Nat} (L : LaysNodeE P k) (enc : α → List Value) (cf : α → α → Int) (O : SWO (Go.Proofs.ltOf cf)) (g : Nat) (cb : Array Value) (blk off cap : Nat) (d0 : Array α) (w0 : World) (eg : ∀ args w, (callFunc g args).run P w = .ok (.enter g args) w) (hcmp : CmpLays P g cb enc k cf blk off d0.size w0) (R : RowK enc k w0 blk off d0) :
    ∀ (N a m b : Nat) (d : Array α) (w : World) (A X Y Q : List α), b - a ≤ N → d0.size = d.size → SWK enc k w0 blk off d w → d.toList = A ++ (X ++ (Y ++ Q)) → A.length = a → a + X.length = m → m + Y.length = b → 0 < X.length → 0 < Y.length → Srt (Go.Proofs.ltOf cf) X → Srt (Go.Proofs.ltOf cf) Y → d.size < 4611686018427387904 →
      Calls P 143 #[.slice (some ⟨blk, off, none⟩) d.size cap, .int .i64 a, .int .i64 m, .int .i64 b, .func (.func g) #[] cb] w (SymPost enc k w0 blk off (Go.Proofs.ltOf cf) A X Y Q) := by
  intro N
  induction N with
  | zero => intro a m b d w A X Y Q h1 _ _ _ _ _ _ _ _; omega
  | succ N ih =>
    intro a m b d w A X Y Q hN hs S hd ha hm hb hX hY sX sY hsz
    by_cases h1 : X.length = 1
    · obtain ⟨x, rfl⟩ := List.length_eq_one_iff.1 h1
      refine (symL_NodeE L enc cf O g cb blk off cap a m b d0 d w0 w eg hcmp R hs S A Y Q x (by rw [hd]; simp) ha (by simpa using hm) hb sY hsz).mono ?_
      rintro e w' ⟨rfl, d', Z, h1, h2, h3, h4⟩
      exact ⟨rfl, d', Z, h1, h2, h3, h4⟩
    · by_cases h2 : Y.length = 1
      · obtain ⟨y, rfl⟩ := List.length_eq_one_iff.1 h2
        refine (symR_NodeE L enc cf O g cb blk off cap a m b d0 d w0 w eg hcmp R hs S A X Q y (by rw [hd]; simp) ha hm (by omega) (by simpa using hb) sX hsz).mono ?_
        rintro e w' ⟨rfl, d', Z, h1, h2, h3, h4⟩
        exact ⟨rfl, d', Z, h1, h2, h3, h4⟩
      · exact symN_NodeE L enc cf O g cb blk off cap d0 w0 eg hcmp R N ih a m b d w A X Y Q hN hs S hd ha hm hb (by omega) (by omega) sX sY hsz
end Go.Proofs.YtjegncmkebbdfaaGreatDoor

namespace Go.Proofs.YtjegncmkebbdfaaGreatDoor
open Go.RowKit Go.Shelf Go.Lib Go.Sort
instance inhNodeN : Inhabited NodeE := ⟨⟨0, 0, 0, 0, none, 0, []⟩⟩
def insNodeE_ren : Go.Shelf.Ren := ⟨fun | 20 => 105 | n => n, fun | 24 => 51 | 22 => 25 | 3 => 3 | 25 => 65 | 4 => 4 | 0 => 0 | n => n, fun | n => n⟩
theorem insNodeE : Go.Proofs.SlLaysF0.n20 Tryz.prog insNodeE_ren := {
  mixed := by kernel_rfl
  f20 := ⟨Tryz.f105.name, by decide, Tryz.func105.trans (congrArg some (by kernel_rfl))⟩
  t0 := Tryz.underlying0
  a0 := Tryz.isAgg0
  z0 := Tryz.sizeOf0
  v0 := Tryz.zeroValue0
  t3 := Tryz.underlying3
  a3 := Tryz.isAgg3
  z3 := Tryz.sizeOf3
  v3 := Tryz.zeroValue3
  t4 := Tryz.underlying4
  a4 := Tryz.isAgg4
  z4 := Tryz.sizeOf4
  v4 := Tryz.zeroValue4
  t22 := Tryz.underlying25
  a22 := Tryz.isAgg25
  z22 := Tryz.sizeOf25
  v22 := Tryz.zeroValue25
  t25 := Tryz.underlying65
  a25 := Tryz.isAgg65
  z25 := Tryz.sizeOf65
  v25 := Tryz.zeroValue65 }
/-- slices.insertionSortCmpFunc on a part, as lists. -/
theorem insPart_NodeE (cf : NodeE → NodeE → Int) (O : SWO (Go.Proofs.ltOf cf)) (g : Nat) (cb : Array Value) (blk off cap : Nat) (d0 : Array NodeE) (w0 : World) (eg : ∀ args w, (callFunc g args).run Tryz.prog w = .ok (.enter g args) w) (hcmp : CmpLays Tryz.prog g cb NodeE.cells 5 cf blk off d0.size w0) (R : RowK NodeE.cells 5 w0 blk off d0)
    (a b : Nat) (d : Array NodeE) (w : World) (A B C : List NodeE) (hs : d0.size = d.size) (S : SWK NodeE.cells 5 w0 blk off d w) (hd : d.toList = A ++ (B ++ C)) (ha : A.length = a) (hb : a + B.length = b) (hsz : d.size < 4611686018427387904) :
    Calls Tryz.prog 105 #[.slice (some ⟨blk, off, none⟩) d.size cap, .int .i64 a, .int .i64 b, .func (.func g) #[] cb] w fun e w' =>
      e = .returned (.tuple #[]) ∧ ∃ (d' : Array NodeE) (Z : List NodeE), d'.toList = A ++ (Z ++ C) ∧ Z.length = B.length ∧ Srt (Go.Proofs.ltOf cf) Z ∧ Stb (Go.Proofs.ltOf cf) d.toList d'.toList ∧ SWK NodeE.cells 5 w0 blk off d' w' := by
  subst ha hb
  have hl : d.size = A.length + B.length + C.length := by rw [← Array.length_toList, hd]; simp; omega
  obtain ⟨Z, h1, h2, h3, h4⟩ := insertion_part O hd
  have hC : CmpLays Tryz.prog g cb NodeE.cells 5 cf blk off d.size w := fun m os dk hdk x y => by
    obtain ⟨n0, os0, rfl⟩ := S
    rw [sortWorldK_on NodeE.cells 5 w0 blk off n0 m d dk os0 os R.hblk hdk]
    exact hcmp _ _ dk (by omega) x y
  refine (AnyQ.insertionSortCmpFunc insNodeE 5 Tryz.isAgg51 Tryz.sizeOf51 NodeE.cells R.hk R.h1 cf g cb blk off cap A.length (A.length + B.length) d w eg hC (S.holds R.hblk R.hH hs.symm) (S.lt R.hblk) (by omega) (by omega) hsz).mono ?_
  rintro e w' ⟨rfl, n, os, rfl⟩
  refine ⟨rfl, _, Z, h1, h2, h3, by rw [h1]; exact h4, S.on R.hblk n _ os ?_⟩
  have := congrArg List.length h1
  rw [Array.length_toList] at this
  rw [this, hl]; simp [h2]; omega
set_option maxHeartbeats 8000000 in
set_option maxRecDepth 1000000 in
theorem stable_NodeE (cf : NodeE → NodeE → Int) (O : SWO (Go.Proofs.ltOf cf)) (g : Nat) (cb : Array Value) (blk off cap : Nat) (d : Array NodeE) (w : World) (eg : ∀ args w, (callFunc g args).run Tryz.prog w = .ok (.enter g args) w) (hcmp : CmpLays Tryz.prog g cb NodeE.cells 5 cf blk off d.size w) (R : RowK NodeE.cells 5 w blk off d) (hsz : d.size < 1000000000000) :
    Calls Tryz.prog 92 #[.slice (some ⟨blk, off, none⟩) d.size cap, .int .i64 d.size, .func (.func g) #[] cb] w fun e w' =>
      e = .returned (.tuple #[]) ∧ ∃ d' : Array NodeE, Srt (Go.Proofs.ltOf cf) d'.toList ∧ Stb (Go.Proofs.ltOf cf) d.toList d'.toList ∧ SWK NodeE.cells 5 w blk off d' w' := by
  have HI : Aside _ := insPart_NodeE cf O g cb blk off cap d w eg hcmp R
  have HM : Aside _ := sym_NodeE laysNodeE NodeE.cells cf O g cb blk off cap d w eg hcmp R
  have OO : Aside (SWO (Go.Proofs.ltOf cf)) := O
  have S0 : Aside (SWK NodeE.cells 5 w blk off d w) := SWK.start R.hH
  obtain ⟨n, hn⟩ : ∃ n, d.size = n := ⟨_, rfl⟩
  have HN : Hid (d.size = n) := hn
  rw [hn] at hsz ⊢
  clear hn hcmp R O
  go_enter Tryz.func92, Tryz.ntmps92
  go_wp2_with fail
  go_loopg [7, 8] (n + 20) (fun kx s7 s8 wr => ∃ (a : Nat) (dk : Array NodeE) (A B : List NodeE), s7 = .int .i64 a ∧ s8 = .int .i64 ((a : Int) + 20) ∧ a ≤ n ∧ n + 20 - a ≤ kx ∧ Hid (dk.toList = A ++ B ∧ A.length = a ∧ dk.size = n) ∧ Aside (Fulls (Go.Proofs.ltOf cf) 20 A ∧ Stb (Go.Proofs.ltOf cf) d.toList dk.toList ∧ SWK NodeE.cells 5 w blk off dk wr))
  case atStart => exact ⟨0, d, [], d.toList, rfl, by go_num, Nat.zero_le _, by omega, ⟨rfl, rfl, HN.out⟩, ⟨.nil, Stb.refl, S0.out⟩⟩
  case round =>
    clear S0
    obtain ⟨a, dk, A, B, rfl, rfl, han, hkx, HD, HS⟩ := hrel
    by_cases hlt : a + 20 ≤ n
    · have hz : (a : Int) + 20 ≤ (n : Int) := by omega
      have hcall : Calls Tryz.prog 105 #[.slice (some ⟨blk, off, none⟩) n cap, .int .i64 a, .int .i64 ((a : Int) + 20), .func (.func g) #[] cb] wr fun e w' => e = .returned (.tuple #[]) ∧ ∃ (d' : Array NodeE) (A' B' : List NodeE), (d'.toList = A' ++ B' ∧ A'.length = a + 20 ∧ d'.size = n) ∧ Fulls (Go.Proofs.ltOf cf) 20 A' ∧ Stb (Go.Proofs.ltOf cf) d.toList d'.toList ∧ SWK NodeE.cells 5 w blk off d' w' := by
        obtain ⟨e1, e2, e3⟩ := HD.out
        obtain ⟨f1, f2, f3⟩ := HS.out
        have hlB : B.length = n - a := by have := congrArg List.length e1; rw [Array.length_toList, e3, List.length_append] at this; omega
        have h := HI.out a (a + 20) dk wr A (B.take 20) (B.drop 20) (by rw [HN.out, e3]) f3 (by rw [e1, List.take_append_drop]) e2 (by simp; omega) (by omega)
        rw [e3, show ((a + 20 : Nat) : Int) = (a : Int) + 20 by omega] at h
        refine h.mono ?_
        rintro e w' ⟨rfl, d', Z, h1, h2, h3, h4, h5⟩
        have hZ : Z.length = 20 := by rw [h2]; simp; omega
        refine ⟨rfl, d', A ++ Z, B.drop 20, ⟨by rw [h1]; simp, by simp [hZ, e2], ?_⟩, f1.snoc hZ h3, f2.trans h4, h5⟩
        rw [← Array.length_toList, h1]; simp [hZ]; omega
      clear HS
      have ew : IntKind.i64.wrap ((a : Int) + 20 + 20) = (a : Int) + 20 + 20 := by rw [IntKind.wrap_i64]; omega
      go_wp2_with (go_at_call 105; refine hcall.mono ?_; rintro e w1 ⟨rfl, d', A', B', HD', HS'⟩)
      go_roundg (n - a)
      case measure => omega
      case rel => exact ⟨a + 20, d', A', B', by go_num, by go_num, hlt, by omega, HD', HS'⟩
    · have hz : ¬ ((a : Int) + 20 ≤ (n : Int)) := by omega
      have hcall : Calls Tryz.prog 105 #[.slice (some ⟨blk, off, none⟩) n cap, .int .i64 a, .int .i64 n, .func (.func g) #[] cb] wr fun e w' => e = .returned (.tuple #[]) ∧ ∃ (d' : Array NodeE), d'.size = n ∧ Runs (Go.Proofs.ltOf cf) 20 d'.toList ∧ Stb (Go.Proofs.ltOf cf) d.toList d'.toList ∧ SWK NodeE.cells 5 w blk off d' w' := by
        obtain ⟨e1, e2, e3⟩ := HD.out
        obtain ⟨f1, f2, f3⟩ := HS.out
        have hlB : B.length = n - a := by have := congrArg List.length e1; rw [Array.length_toList, e3, List.length_append] at this; omega
        have h := HI.out a n dk wr A B [] (by rw [HN.out, e3]) f3 (by rw [e1]; simp) e2 (by omega) (by omega)
        rw [e3] at h
        refine h.mono ?_
        rintro e w' ⟨rfl, d', Z, h1, h2, h3, h4, h5⟩
        refine ⟨rfl, d', ?_, ?_, f2.trans h4, h5⟩
        · rw [← Array.length_toList, h1]; simp [h2]; omega
        · rw [h1, List.append_nil]; exact f1.runs (.last Z (by omega) h3)
      clear HS HD
      go_wp2_with (go_at_call 105; refine hcall.mono ?_; rintro e w1 ⟨rfl, d1, hd1, hr1, hs1, hw1⟩)
      have S1 : Aside (Runs (Go.Proofs.ltOf cf) 20 d1.toList ∧ Stb (Go.Proofs.ltOf cf) d.toList d1.toList ∧ SWK NodeE.cells 5 w blk off d1 w1) := ⟨hr1, hs1, hw1⟩
      have D1 : Hid (d1.size = n) := hd1
      clear hr1 hs1 hw1 hd1 hcall
      go_loopg [6] (n + 20) (fun kx s6 wr => ∃ (bs : Nat) (dk : Array NodeE), s6 = .int .i64 bs ∧ 20 ≤ bs ∧ bs ≤ 2 * n + 20 ∧ n + 20 - bs ≤ kx ∧ Hid (dk.size = n) ∧ Aside (Runs (Go.Proofs.ltOf cf) bs dk.toList ∧ Stb (Go.Proofs.ltOf cf) d.toList dk.toList ∧ SWK NodeE.cells 5 w blk off dk wr))
      case atStart => exact ⟨20, d1, rfl, Nat.le_refl _, by omega, by omega, D1, S1⟩
      case round =>
        clear S1 D1
        obtain ⟨bs, dk, rfl, hbs, hbn, hkx, HD, HS⟩ := hrel
        by_cases hlt2 : bs < n
        · have hz2 : (bs : Int) < (n : Int) := by omega
          have ew1 : IntKind.i64.wrap (2 * (bs : Int)) = 2 * (bs : Int) := by rw [IntKind.wrap_i64]; omega
          have ew2 : IntKind.i64.wrap ((bs : Int) * 2) = (bs : Int) * 2 := by rw [IntKind.wrap_i64]; omega
          go_wp2_with fail
          go_loopg [7, 8] n (fun kx s7 s8 wr => ∃ (a : Nat) (dk : Array NodeE) (A B : List NodeE), s7 = .int .i64 a ∧ s8 = .int .i64 ((a : Int) + 2 * (bs : Int)) ∧ a ≤ n ∧ n - a ≤ kx ∧ Hid (dk.toList = A ++ B ∧ A.length = a ∧ dk.size = n) ∧ Aside (Fulls (Go.Proofs.ltOf cf) (2 * bs) A ∧ Runs (Go.Proofs.ltOf cf) bs B ∧ Stb (Go.Proofs.ltOf cf) d.toList dk.toList ∧ SWK NodeE.cells 5 w blk off dk wr))
          case atStart => exact ⟨0, dk, [], dk.toList, rfl, by simp, Nat.zero_le _, by omega, ⟨rfl, rfl, HD.out⟩, ⟨.nil, HS.out⟩⟩
          case round =>
            clear HD HS
            obtain ⟨a, dk, A, B, rfl, rfl, han, hkx2, HD, HS⟩ := hrel
            have ew3 : IntKind.i64.wrap ((a : Int) + (bs : Int)) = (a : Int) + (bs : Int) := by rw [IntKind.wrap_i64]; omega
            have ew4 : IntKind.i64.wrap ((a : Int) + 2 * (bs : Int) + 2 * (bs : Int)) = (a : Int) + 2 * (bs : Int) + 2 * (bs : Int) := by rw [IntKind.wrap_i64]; omega
            by_cases hlt3 : a + 2 * bs ≤ n
            · have hz3 : (a : Int) + 2 * (bs : Int) ≤ (n : Int) := by omega
              have hcall : Calls Tryz.prog 143 #[.slice (some ⟨blk, off, none⟩) n cap, .int .i64 a, .int .i64 ((a : Int) + (bs : Int)), .int .i64 ((a : Int) + 2 * (bs : Int)), .func (.func g) #[] cb] wr fun e w' => e = .returned (.tuple #[]) ∧ ∃ (d' : Array NodeE) (A' B' : List NodeE), (d'.toList = A' ++ B' ∧ A'.length = a + 2 * bs ∧ d'.size = n) ∧ Fulls (Go.Proofs.ltOf cf) (2 * bs) A' ∧ Runs (Go.Proofs.ltOf cf) bs B' ∧ Stb (Go.Proofs.ltOf cf) d.toList d'.toList ∧ SWK NodeE.cells 5 w blk off d' w' := by
                obtain ⟨e1, e2, e3⟩ := HD.out
                obtain ⟨f1, f2, f3, f4⟩ := HS.out
                have hlB : B.length = n - a := by have := congrArg List.length e1; rw [Array.length_toList, e3, List.length_append] at this; omega
                obtain ⟨B1, R1, rfl, l1, s1, r1⟩ := f2.cut (by omega)
                rw [List.length_append] at hlB
                obtain ⟨B2, R2, rfl, l2, s2, r2⟩ := r1.cut (by omega)
                have h := HM.out n a (a + bs) (a + 2 * bs) dk wr A B1 B2 R2 (by omega) (by rw [HN.out, e3]) f4 e1 e2 (by omega) (by omega) (by omega) (by omega) s1 s2 (by omega)
                rw [e3, show ((a + bs : Nat) : Int) = (a : Int) + (bs : Int) by omega, show ((a + 2 * bs : Nat) : Int) = (a : Int) + 2 * (bs : Int) by omega] at h
                refine h.mono ?_
                rintro e w' ⟨rfl, d', Z, h1, h2, h3, h4⟩
                have hZ : Z.length = 2 * bs := by rw [h3.length OO.out, List.length_append]; omega
                have hst : Stb (Go.Proofs.ltOf cf) dk.toList d'.toList := by
                  rw [e1, h1, ← List.append_assoc B1]
                  exact Stb.refl.app (h3.app Stb.refl)
                refine ⟨rfl, d', A ++ Z, R2, ⟨by rw [h1, List.append_assoc], by rw [List.length_append]; omega, ?_⟩, f1.snoc hZ h2, r2, f3.trans hst, h4⟩
                have := congrArg List.length h1
                rw [Array.length_toList] at this
                rw [this]
                simp only [List.length_append] at hlB ⊢
                omega
              clear HS HD
              go_wp2_with (go_at_call 143; refine hcall.mono ?_; rintro e w1 ⟨rfl, d', A', B', HD', HS'⟩)
              go_roundg (n - (a + 2 * bs))
              case measure => omega
              case rel => exact ⟨a + 2 * bs, d', A', B', by first | rfl | (congr 1; done) | (congr 1; omega) | go_num, by first | rfl | (congr 1; done) | (congr 1; omega) | go_num, hlt3, Nat.le_refl _, HD', HS'⟩
            · have hz3 : ¬ ((a : Int) + 2 * (bs : Int) ≤ (n : Int)) := by omega
              by_cases hlt4 : a + bs < n
              · have hz4 : (a : Int) + (bs : Int) < (n : Int) := by omega
                have hcall : Calls Tryz.prog 143 #[.slice (some ⟨blk, off, none⟩) n cap, .int .i64 a, .int .i64 ((a : Int) + (bs : Int)), .int .i64 n, .func (.func g) #[] cb] wr fun e w' => e = .returned (.tuple #[]) ∧ ∃ (d' : Array NodeE), d'.size = n ∧ Runs (Go.Proofs.ltOf cf) (2 * bs) d'.toList ∧ Stb (Go.Proofs.ltOf cf) d.toList d'.toList ∧ SWK NodeE.cells 5 w blk off d' w' := by
                  obtain ⟨e1, e2, e3⟩ := HD.out
                  obtain ⟨f1, f2, f3, f4⟩ := HS.out
                  have hlB : B.length = n - a := by have := congrArg List.length e1; rw [Array.length_toList, e3, List.length_append] at this; omega
                  obtain ⟨B1, R1, rfl, l1, s1, r1⟩ := f2.cut (by omega)
                  rw [List.length_append] at hlB
                  have h := HM.out n a (a + bs) n dk wr A B1 R1 [] (by omega) (by rw [HN.out, e3]) f4 (by rw [e1, List.append_nil]) e2 (by omega) (by omega) (by omega) (by omega) s1 (r1.short (by omega)) (by omega)
                  rw [e3, show ((a + bs : Nat) : Int) = (a : Int) + (bs : Int) by omega] at h
                  refine h.mono ?_
                  rintro e w' ⟨rfl, d', Z, h1, h2, h3, h4⟩
                  rw [List.append_nil] at h1
                  have hZ : Z.length = B1.length + R1.length := by rw [h3.length OO.out, List.length_append]
                  have hst : Stb (Go.Proofs.ltOf cf) dk.toList d'.toList := by
                    rw [e1, h1]
                    exact Stb.refl.app h3
                  refine ⟨rfl, d', ?_, ?_, f3.trans hst, h4⟩
                  · have := congrArg List.length h1
                    rw [Array.length_toList] at this
                    rw [this, List.length_append]
                    omega
                  · rw [h1]; exact f1.runs (.last Z (by omega) h2)
                clear HS HD
                go_wp2_with (go_at_call 143; refine hcall.mono ?_; rintro e w1 ⟨rfl, d', HD', HS'⟩)
                go_roundg (n + 20 - 2 * bs)
                case measure => omega
                case rel => exact ⟨2 * bs, d', by first | rfl | (congr 1; done) | (congr 1; omega) | go_num, by omega, by omega, Nat.le_refl _, HD', HS'⟩
              · have hz4 : ¬ (a : Int) + (bs : Int) < (n : Int) := by omega
                have HS' : Hid (dk.size = n) ∧ Aside (Runs (Go.Proofs.ltOf cf) (2 * bs) dk.toList ∧ Stb (Go.Proofs.ltOf cf) d.toList dk.toList ∧ SWK NodeE.cells 5 w blk off dk wr) := by
                  obtain ⟨e1, e2, e3⟩ := HD.out
                  obtain ⟨f1, f2, f3, f4⟩ := HS.out
                  have hlB : B.length = n - a := by have := congrArg List.length e1; rw [Array.length_toList, e3, List.length_append] at this; omega
                  exact ⟨e3, by rw [e1]; exact f1.runs (.last B (by omega) (f2.whole (by omega))), f3, f4⟩
                clear HS HD
                go_wp2_with fail
                go_roundg (n + 20 - 2 * bs)
                case measure => omega
                case rel => exact ⟨2 * bs, dk, by first | rfl | (congr 1; done) | (congr 1; omega) | go_num, by omega, by omega, Nat.le_refl _, HS'.1, HS'.2⟩
        · have hz2 : ¬ (bs : Int) < (n : Int) := by omega
          go_wp2_with fail
          go_end0
          obtain ⟨f1, f2, f3⟩ := HS.out
          exact ⟨rfl, dk, f1.whole (by rw [Array.length_toList, HD.out]; omega), f2, f3⟩
end Go.Proofs.YtjegncmkebbdfaaGreatDoor

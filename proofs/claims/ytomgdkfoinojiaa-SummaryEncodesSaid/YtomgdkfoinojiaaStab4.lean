/-
  Contracts of the functions of this seat that each theorem names: what a call returns, and that it writes nothing that was there before. The conditions stand in each theorem.
-/
import Derived.Test.YtomgdkfoinojiaaStab3
import Derived.Test.YtomgdkfoinojiaaStab3S
set_option linter.unusedSimpArgs false
set_option linter.unusedVariables false
namespace Go.Proofs.Ytomgdkfoinojiaa
open Go.RowKit Go.Shelf Go.Lib Go.Sort
variable {P : Program} {α : Type} [Inhabited α]
/-- slices.symMergeCmpFunc: two neighbouring runs become one. -/
theorem sym_InsetE {k : Nat} (L : LaysInsetE P k) (enc : α → List Value) (cf : α → α → Int) (O : SWO (Go.Proofs.ltOf cf)) (g : Nat) (cb : Array Value) (blk off cap : Nat) (d0 : Array α) (w0 : World) (eg : ∀ args w, (callFunc g args).run P w = .ok (.enter g args) w) (hcmp : CmpLays P g cb enc k cf blk off d0.size w0) (R : RowK enc k w0 blk off d0) :
    ∀ (N a m b : Nat) (d : Array α) (w : World) (A X Y Q : List α), b - a ≤ N → d0.size = d.size → SWK enc k w0 blk off d w → d.toList = A ++ (X ++ (Y ++ Q)) → A.length = a → a + X.length = m → m + Y.length = b → 0 < X.length → 0 < Y.length → Srt (Go.Proofs.ltOf cf) X → Srt (Go.Proofs.ltOf cf) Y → d.size < 4611686018427387904 →
      Calls P 108 #[.slice (some ⟨blk, off, none⟩) d.size cap, .int .i64 a, .int .i64 m, .int .i64 b, .func (.func g) #[] cb] w (SymPost enc k w0 blk off (Go.Proofs.ltOf cf) A X Y Q) := by
  intro N
  induction N with
  | zero => intro a m b d w A X Y Q h1 _ _ _ _ _ _ _ _; omega
  | succ N ih =>
    intro a m b d w A X Y Q hN hs S hd ha hm hb hX hY sX sY hsz
    by_cases h1 : X.length = 1
    · obtain ⟨x, rfl⟩ := List.length_eq_one_iff.1 h1
      refine (symL_InsetE L enc cf O g cb blk off cap a m b d0 d w0 w eg hcmp R hs S A Y Q x (by rw [hd]; simp) ha (by simpa using hm) hb sY hsz).mono ?_
      rintro e w' ⟨rfl, d', Z, h1, h2, h3, h4⟩
      exact ⟨rfl, d', Z, h1, h2, h3, h4⟩
    · by_cases h2 : Y.length = 1
      · obtain ⟨y, rfl⟩ := List.length_eq_one_iff.1 h2
        refine (symR_InsetE L enc cf O g cb blk off cap a m b d0 d w0 w eg hcmp R hs S A X Q y (by rw [hd]; simp) ha hm (by omega) (by simpa using hb) sX hsz).mono ?_
        rintro e w' ⟨rfl, d', Z, h1, h2, h3, h4⟩
        exact ⟨rfl, d', Z, h1, h2, h3, h4⟩
      · exact symN_InsetE L enc cf O g cb blk off cap d0 w0 eg hcmp R N ih a m b d w A X Y Q hN hs S hd ha hm hb (by omega) (by omega) sX sY hsz
/-- slices.symMergeCmpFunc: two neighbouring runs become one. -/
theorem sym_SumE {k : Nat} (L : LaysSumE P k) (enc : α → List Value) (cf : α → α → Int) (O : SWO (Go.Proofs.ltOf cf)) (g : Nat) (cb : Array Value) (blk off cap : Nat) (d0 : Array α) (w0 : World) (eg : ∀ args w, (callFunc g args).run P w = .ok (.enter g args) w) (hcmp : CmpLays P g cb enc k cf blk off d0.size w0) (R : RowK enc k w0 blk off d0) :
    ∀ (N a m b : Nat) (d : Array α) (w : World) (A X Y Q : List α), b - a ≤ N → d0.size = d.size → SWK enc k w0 blk off d w → d.toList = A ++ (X ++ (Y ++ Q)) → A.length = a → a + X.length = m → m + Y.length = b → 0 < X.length → 0 < Y.length → Srt (Go.Proofs.ltOf cf) X → Srt (Go.Proofs.ltOf cf) Y → d.size < 4611686018427387904 →
      Calls P 110 #[.slice (some ⟨blk, off, none⟩) d.size cap, .int .i64 a, .int .i64 m, .int .i64 b, .func (.func g) #[] cb] w (SymPost enc k w0 blk off (Go.Proofs.ltOf cf) A X Y Q) := by
  intro N
  induction N with
  | zero => intro a m b d w A X Y Q h1 _ _ _ _ _ _ _ _; omega
  | succ N ih =>
    intro a m b d w A X Y Q hN hs S hd ha hm hb hX hY sX sY hsz
    by_cases h1 : X.length = 1
    · obtain ⟨x, rfl⟩ := List.length_eq_one_iff.1 h1
      refine (symL_SumE L enc cf O g cb blk off cap a m b d0 d w0 w eg hcmp R hs S A Y Q x (by rw [hd]; simp) ha (by simpa using hm) hb sY hsz).mono ?_
      rintro e w' ⟨rfl, d', Z, h1, h2, h3, h4⟩
      exact ⟨rfl, d', Z, h1, h2, h3, h4⟩
    · by_cases h2 : Y.length = 1
      · obtain ⟨y, rfl⟩ := List.length_eq_one_iff.1 h2
        refine (symR_SumE L enc cf O g cb blk off cap a m b d0 d w0 w eg hcmp R hs S A X Q y (by rw [hd]; simp) ha hm (by omega) (by simpa using hb) sX hsz).mono ?_
        rintro e w' ⟨rfl, d', Z, h1, h2, h3, h4⟩
        exact ⟨rfl, d', Z, h1, h2, h3, h4⟩
      · exact symN_SumE L enc cf O g cb blk off cap d0 w0 eg hcmp R N ih a m b d w A X Y Q hN hs S hd ha hm hb (by omega) (by omega) sX sY hsz
end Go.Proofs.Ytomgdkfoinojiaa

/-
  Contracts of the functions of this seat that each theorem names: what a call returns, and that it writes nothing that was there before. The conditions stand in each theorem.
-/
import Derived.Test.YtomgdkfoinojiaaS32RefDec
import Derived.Test.YtomgdkfoinojiaaGrpT
import Derived.Test.YtomgdkfoinojiaaGrpV
set_option linter.unusedSimpArgs false
set_option linter.unusedVariables false
namespace Go.Proofs.Ytomgdkfoinojiaa
open Go.RowKit
attribute [local simp] heap_drew
set_option maxRecDepth 100000 in
set_option maxHeartbeats 16000000 in
theorem lawDecodes_any (bA : Option Addr) (bC : Nat) (b : List Int) (w : World) (hs : SlAt U8.cells 1 w bA b) (hl : b.length ≤ 9223372036854775807) (hb : Bytes b) :
    Calls Try.prog 9 #[.slice bA b.length bC] w fun r w' => r = .returned (.bool true) ∧ Below w.heap.size w w' := by
  go_enter Try.func9, Try.ntmps9
  by_cases hn : 1000 < b.length
  · have hn' : (1000 : Int) < (b.length : Int) := by omega
    go_wp2_with (go_at_call 15; refine (awake_any _).mono ?_; rintro r w9 ⟨rfl, hb9⟩; have l9 := later hb9)
    go_ret
    exact ⟨rfl, below_of⟩
  have hn' : decide ((1000 : Int) < (b.length : Int)) = false := by simp; omega
  have HD : ∀ u [Later w u], Calls Try.prog 27 #[.slice bA b.length bC] u (SDecPost b u) := fun u i => sdecode_any bA bC b u (hs.below i.below) (by omega) hb
  have HE : ∀ u [Later w u], Calls Try.prog 28 #[.slice bA b.length bC] u (SDecPost b u) := fun u i => refDecode_any bA bC b u (hs.below i.below) (by omega) hb
  have hlen : ∀ q : List SumE, ∀ ep e, decS b = (ep, q.map SumE.con, e) → q.length ≤ 1000000000 ∧ ∀ x ∈ q, x.inset.length ≤ 1000000000 := fun q ep e h => by
    by_cases he : e = 0
    · subst he
      have hz := decS_zero hb (by rw [h])
      rw [h] at hz
      obtain ⟨_, h1, _, h2⟩ := encS_rng hz.2.1 hz.2.2.1.2 hz.2.2.2
      rw [List.length_map] at h1
      exact ⟨by omega, fun x hx => Nat.le_trans (h2 x.con (List.mem_map_of_mem hx)) (by omega)⟩
    · have hq : q.map SumE.con = [] := by
        unfold decS at h
        split at h
        · obtain ⟨_, h⟩ := Prod.mk.inj h
          obtain ⟨_, h⟩ := Prod.mk.inj h
          exact absurd h.symm he
        · obtain ⟨_, h⟩ := Prod.mk.inj h
          exact (Prod.mk.inj h).1.symm
      have : q = [] := by simpa using hq
      subst this
      exact ⟨by simp, fun x hx => by cases hx⟩
  go_upto_region 4 with (go_at_call 27; refine (HD _).mono ?_; rintro r w1 ⟨ep, q, A1, c1, e, hd1, rfl, hs1, hb1⟩; have l1 := later hb1)
  have HS1 := hs1.later
  refine wp_name ?_
  intro w2 hw2
  obtain ⟨B2, l2⟩ := box1 hw2
  clear hw2
  have l22 : Later w2 w2 := Later.refl
  go_upto_region 5 with (go_at_call 28; refine (HE _).mono ?_; rintro r w3 ⟨ep', q', A3, c3, e', hd3, rfl, hs3, hb3⟩; have l3 := later hb3)
  have HS3 := hs3.later
  refine wp_name ?_
  intro w4 hw4
  obtain ⟨B4, l4⟩ := box1 hw4
  clear hw4
  have l44 : Later w4 w4 := Later.refl
  have heq := hd1.out.symm.trans hd3.out
  obtain ⟨h1, h2⟩ := Prod.mk.inj heq
  obtain ⟨h2, h3⟩ := Prod.mk.inj h2
  obtain ⟨hl1, hi1⟩ := hlen q ep e hd1.out
  obtain ⟨hl3, hi3⟩ := hlen q' ep' e' hd3.out
  have Hm := hide h2
  subst h1 h3
  clear heq h2 hlen hd1 hd3
  have HF : ∀ u [Later w4 u], Calls Try.prog 12 #[.agg #[.int .i64 ep, .slice A1 q.length c1], .agg #[.int .i64 ep, .slice A3 q'.length c3]] u fun r w' => r = .returned (.bool true) ∧ Below u.heap.size u w' := fun u i => by
    haveI : Later w1 u := Later.trans (inferInstance : Later w1 w4) i
    haveI : Later w3 u := Later.trans (inferInstance : Later w3 w4) i
    have := same32_any ep ep A1 A3 c1 c3 q q' u (HS1 u) (HS3 u) hl1 hl3 hi1 hi3
    rwa [decide_eq_true (show ep = ep ∧ q.map SumE.con = q'.map SumE.con from ⟨rfl, Hm.out⟩)] at this
  go_wp2_with (first | (go_at_call 12; refine (HF _).mono ?_; rintro r w20 ⟨rfl, hb20⟩; have l20 := later hb20) | (go_at_call 15; refine (awake_any _).mono ?_; rintro r w21 ⟨rfl, hb21⟩; have l21 := later hb21))
  go_ret
  exact ⟨rfl, below_of⟩
end Go.Proofs.Ytomgdkfoinojiaa

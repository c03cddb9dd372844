/-
  Contracts of the functions of this seat that each theorem names: what a call returns, and that it writes nothing that was there before. The conditions stand in each theorem.
-/
import Derived.Test.YthigjlllhnajbaaC25Build
import Derived.Test.YthigjlllhnajbaaC25Encode
import Derived.Test.YthigjlllhnajbaaC25Walk4
namespace Go.Proofs.Ythigjlllhnajbaa
open Go.RowKit
abbrev aS1 : ScionE := ⟨1, 5, 0, 0, 3, 0, 0, false, false, false, 0, 0⟩
abbrev aS2 : ScionE := ⟨1, 6, 0, 0, 9, 0, 0, false, false, false, 0, 0⟩
abbrev aS3 : ScionE := ⟨1, 7, 0, 0, 2, 4, 0, false, false, false, 0, 0⟩
abbrev aS3' : ScionE := ⟨1, 7, 0, 0, 2, 4, 2, false, true, false, 0, 0⟩
abbrev aT1 : StubE := ⟨2, 7, 0, 0, 0, 0, 0, false, false, false, 0, 0⟩
abbrev aT2 : StubE := ⟨3, 1, 0, 0, 0, 0, 0, false, false, false, 0, 0⟩
theorem aw_kept : keptL [⟨7, 2, true⟩] 8 4 [aS1, aS2, aS3] = [aS2, aS3'] := by rfl
theorem aw_rem : remL [⟨7, 2, true⟩] 8 4 [aS1, aS2, aS3] = [aS1] := by rfl
theorem aw_ded : dedL 2 [aT1, aT2] = [⟨7, 0, false⟩] := by rfl
set_option maxRecDepth 100000 in
set_option maxHeartbeats 2000000 in
theorem awake_any (w : World) : Calls Try.prog 11 #[] w fun r w' => r = .returned (.bool true) ∧ Below w.heap.size w w' := by
  go_enter Try.func11, Try.ntmps11
  go_upto_region 2 with fail
  refine wp_name ?_
  intro w1 hw1
  have l1 := later_name' hw1 (inferInstance : Later w _)
  have hS : SlAt ScionE.cells 12 w1 (some ⟨w.heap.size, 0, none⟩) [aS1, aS2, aS3] := blk_slAt ScionE.enc (fr := (0, 0)) (e := 43) (by rw [← hw1]; simp only [heap_alloc_if, World.size_alloc]; repeat (first | rw [if_pos trivial] | rw [if_neg (by omega)] | rw [if_pos (by omega)]); try rfl) _ rfl
  clear hw1
  go_wp2_with (go_at_call 16; refine (apply_any _ 3 [aS1, aS2, aS3] ⟨1, 4, 8, some ⟨w1.heap.size, 0, none⟩, 1, [⟨7, 2, true⟩]⟩ _ (hS.later _) ⟨blk_slAt ListedE.enc (fr := (0, 0)) (e := 64) (heap_alloc_new _ _) [⟨7, 2, true⟩] rfl, by simp⟩ (by simp)).mono ?_)
  rintro r w2 v1 v2 rfl ho1 ho2 hb2
  have l2 := later (W := w1.alloc _) (by simpa using hb2)
  have hlw1 : ∀ b [Later b w1], Later b w2 := fun b i => i.trans (l2 w1)
  rw [aw_kept] at ho1
  rw [aw_rem] at ho2
  rcases ho1.form with ⟨-, h⟩ | ⟨g, cap, rfl, hg1, hg2, -, -⟩
  · cases h
  rcases ho2.form with ⟨-, h⟩ | ⟨g', cap', rfl, hg3, hg4, -, -⟩
  · cases h
  have d0 := (ho2.cell ScionE.enc (k := 0) rfl (j := 1) rfl)
  have e0 := (ho1.cell ScionE.enc (k := 0) rfl (j := 8) rfl)
  have e1 := (ho1.cell ScionE.enc (k := 1) rfl (j := 8) rfl)
  have e2 := (ho1.cell ScionE.enc (k := 1) rfl (j := 6) rfl)
  simp only [List.length_cons, List.length_nil, Nat.reduceAdd, Nat.reduceMul] at d0 e0 e1 e2
  have D0 := Later.cell d0
  have E0 := Later.cell e0
  have E1 := Later.cell e1
  have E2 := Later.cell e2
  clear ho1 ho2 d0 e0 e1 e2 hS
  go_wp2_with (go_at_call 12; refine (build_any (some ⟨w2.heap.size, 0, none⟩) 2 [aT1, aT2] 2 1 4 8 _ (blk_slAt StubE.enc (fr := (0, 0)) (e := 34) (heap_alloc_new _ _) [aT1, aT2] rfl) (by simp)).mono ?_)
  rintro r w3 A c l rfl hp - ho3 hb3
  rw [aw_ded, List.perm_singleton] at hp
  subst hp
  have l3 := later (W := w2.alloc _) (by simpa using hb3)
  have hlw2 : ∀ b [Later b w2], Later b w3 := fun b i => i.trans (l3 w2)
  have hS3 := (ho3.at_ ListedE.enc).2.2
  clear ho3 hb3 hb2 l2 l3
  go_upto_region 4 with fail
  refine wp_name ?_
  intro w4 hw4
  have l4 := later_name' hw4 (inferInstance : Later w3 _)
  have B4 : Boxed w4 w3.heap.size #[.int .i64 1, .int .i64 4, .int .i64 8, .slice A 1 c] 26 := boxed (by rw [← hw4]; simp only [heap_alloc_if, World.size_alloc]; repeat (first | rw [if_pos trivial] | rw [if_neg (by omega)] | rw [if_pos (by omega)]); try rfl)
  clear hw4
  have hAt : ∀ u [Later w3 u], ListV.at_ ⟨1, 4, 8, A, c, [⟨7, 0, false⟩]⟩ u := fun u i => ⟨hS3.below i.below, by simp⟩
  have HV : ∀ u [Later w3 u], Calls Try.prog 15 #[.agg #[.int .i64 1, .int .i64 4, .int .i64 8, .slice A 1 c]] u fun r w' => r = .returned (.bool true) ∧ Below u.heap.size u w' := fun u i => valid_any ⟨1, 4, 8, A, c, [⟨7, 0, false⟩]⟩ u (hAt u)
  have HE : ∀ u [Later w3 u], Calls Try.prog 28 #[.agg #[.int .i64 1, .int .i64 4, .int .i64 8, .slice A 1 c]] u fun r w' => ∃ A n c, Hid (0 < n) ∧ r = .returned (.slice A n c) ∧ Below u.heap.size u w' := fun u i =>
    (encode_any ⟨1, 4, 8, A, c, [⟨7, 0, false⟩]⟩ u (hAt u) (by simp) (by simp [I64r]) (by simp [I64r]) (by simp [I64r]) (by simp; constructor <;> simp)).mono fun r w' ⟨A', c', h1, _, h3⟩ => ⟨A', _, c', (by show 0 < _; simp [encL, encH, intL, uintL]), h1, h3⟩
  clear hS3 hAt
  go_wp2_with (go_at_call 15; refine (HV _).mono ?_)
  rintro r w5 ⟨rfl, hb5⟩
  have l5 := later hb5
  go_wp2_with (go_at_call 28; refine (HE _).mono ?_)
  rintro r w6 ⟨A6, n6, c6, h6, rfl, hb6⟩
  have l6 := later hb6
  have hn6 : decide ((0 : Int) < (n6 : Int)) = true := by have := h6.out; simp; omega
  go_wp2_with fail
  go_ret
  exact ⟨ret_bool (by have := h6.out; simpa using this), below_of⟩
end Go.Proofs.Ythigjlllhnajbaa

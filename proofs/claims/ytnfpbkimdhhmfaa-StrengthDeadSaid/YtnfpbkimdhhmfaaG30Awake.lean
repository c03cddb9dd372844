/-
  Contracts of the functions of this seat that each theorem names: what a call returns, and that it writes nothing that was there before. The conditions stand in each theorem.
-/
import Derived.Test.YtnfpbkimdhhmfaaG30Cls2
import Derived.Test.YtnfpbkimdhhmfaaG30Dead2
namespace Go.Proofs.Ytnfpbkimdhhmfaa
open Go.RowKit
abbrev aV : ValE := ⟨2, 0, 2, 5⟩
abbrev aW : NodeC := ⟨1, 1, 2, 0, [aV]⟩
abbrev aS : NodeC := ⟨2, 5, 3, 1, []⟩
abbrev aL : List NodeC := [aW, aS]
abbrev iW : IDE := ⟨1, 1⟩
abbrev iS : IDE := ⟨2, 5⟩
abbrev aE : StubE := ⟨2, 9, 2, 5, 1, 0, 0, false, false, false, 0, 0⟩
abbrev aE' : StubE := ⟨2, 9, 2, 5, 1, 0, 0, false, true, false, 0, 0⟩
abbrev aC : ScionE := ⟨3, 4, 0, 0, 0, 0, 0, false, true, false, 0, 0⟩
theorem aw_fw : firstN aL iW = some aW := by rfl
theorem aw_fs : firstN aL iS = some aS := by rfl
theorem aw_rw : refsOf aW = [] := by rfl
theorem aw_rs : refsOf aS = [] := by rfl
theorem aw_reach1 : ReachL aL [iW] [iW] := ⟨by unfold SortedI; simp, fun x => ⟨fun h => by
    rw [List.mem_singleton] at h; subst h; exact .root (by simp) (by rw [aw_fw]; rfl), fun h => by
    induction h with
    | root hr _ => exact hr
    | step _ hn hy _ ih =>
      rw [List.mem_singleton] at ih; subst ih
      rw [aw_fw] at hn; injection hn with hn; subst hn
      rw [aw_rw] at hy; cases hy⟩⟩
theorem aw_reach2 : ReachL aL [iW, iS] [iW, iS] := ⟨by unfold SortedI; simp [ltI], fun x => ⟨fun h => by
    rcases List.mem_cons.1 h with rfl | h
    · exact .root (by simp) (by rw [aw_fw]; rfl)
    · rw [List.mem_singleton] at h; subst h; exact .root (by simp) (by rw [aw_fs]; rfl), fun h => by
    induction h with
    | root hr _ => exact hr
    | step _ hn hy _ ih =>
      rcases List.mem_cons.1 ih with rfl | ih
      · rw [aw_fw] at hn; injection hn with hn; subst hn
        rw [aw_rw] at hy; cases hy
      · rw [List.mem_singleton] at ih; subst ih
        rw [aw_fs] at hn; injection hn with hn; subst hn
        rw [aw_rs] at hy; cases hy⟩⟩
theorem aw_reach0 : ReachL aL [] [] := ⟨List.Pairwise.nil, fun x => ⟨fun h => (by cases h), fun h => by
    induction h with
    | root hr _ => cases hr
    | step _ _ _ _ ih => cases ih⟩⟩
theorem aw_cls1 : clsL aL [iW] [] [aE] = [aE'] := by rfl
theorem aw_cls2 : clsL aL [iW, iS] [] [aE] = [aE] := by rfl
theorem aw_cls0 : clsL aL [] [] [aE] = [] := by rfl
theorem aw_weak : setI (weakL aL [] [iS]) = [iS] := by rfl
theorem aw_msg : msgL [] [aC] = [⟨4, 3⟩] := by rfl
set_option maxRecDepth 100000 in
set_option maxHeartbeats 4000000 in
theorem awake_any (w : World) : Calls Try.prog 9 #[] w fun r w' => r = .returned (.bool true) ∧ Below w.heap.size w w' := by
  go_enter Try.func9, Try.ntmps9
  go_upto_region 4 with fail
  refine wp_name ?_
  intro w1 hw1
  have l1 := later_name' hw1 (inferInstance : Later w _)
  obtain ⟨nb, hnb⟩ : ∃ nb, nb = w.heap.size + 1 + 1 + 1 := ⟨_, rfl⟩
  obtain ⟨eb, heb⟩ : ∃ eb, eb = w.heap.size + 1 + 1 + 1 + 1 + 1 := ⟨_, rfl⟩
  obtain ⟨fb, hfb⟩ : ∃ fb, fb = w.heap.size + 1 + 1 := ⟨_, rfl⟩
  have hNs : SlAt NodeE.cells 5 w1 (some ⟨w.heap.size + 1 + 1 + 1, 0, none⟩) [⟨1, 1, 2, 0, some ⟨w.heap.size + 1 + 1, 0, none⟩, 1, [aV]⟩, ⟨2, 5, 3, 1, none, 0, []⟩] := blk_slAt NodeE.enc (fr := (0, 0)) (e := 64) (by rw [← hw1]; simp only [heap_alloc_if, World.size_alloc]; repeat (first | rw [if_pos trivial] | rw [if_neg (by omega)] | rw [if_pos (by omega)]); try rfl) _ rfl
  have hVs : SlAt ValE.cells 4 w1 (some ⟨w.heap.size + 1 + 1, 0, none⟩) [aV] := blk_slAt ValE.enc (fr := (0, 0)) (e := 73) (by rw [← hw1]; simp only [heap_alloc_if, World.size_alloc]; repeat (first | rw [if_pos trivial] | rw [if_neg (by omega)] | rw [if_pos (by omega)]); try rfl) _ rfl
  have hEs : SlAt StubE.cells 12 w1 (some ⟨w.heap.size + 1 + 1 + 1 + 1 + 1, 0, none⟩) [aE] := blk_slAt StubE.enc (fr := (0, 0)) (e := 61) (by rw [← hw1]; simp only [heap_alloc_if, World.size_alloc]; repeat (first | rw [if_pos trivial] | rw [if_neg (by omega)] | rw [if_pos (by omega)]); try rfl) _ rfl
  have bx0 : w1.heap[w.heap.size]? = some (.cells #[.int .i64 1, .int .i64 1] 37 (0, 0)) := (by rw [← hw1]; simp only [heap_alloc_if, World.size_alloc]; repeat (first | rw [if_pos trivial] | rw [if_neg (by omega)] | rw [if_pos (by omega)]); try rfl)
  have bx1 : w1.heap[w.heap.size + 1]? = some (.cells #[.int .i64 2, .int .i64 5] 37 (0, 0)) := (by rw [← hw1]; simp only [heap_alloc_if, World.size_alloc]; repeat (first | rw [if_pos trivial] | rw [if_neg (by omega)] | rw [if_pos (by omega)]); try rfl)
  have bx4 : w1.heap[w.heap.size + 1 + 1 + 1 + 1]? = some (.cells #[.slice (some ⟨w.heap.size + 1 + 1 + 1, 0, none⟩) 2 2] 24 (0, 0)) := (by rw [← hw1]; simp only [heap_alloc_if, World.size_alloc]; repeat (first | rw [if_pos trivial] | rw [if_neg (by omega)] | rw [if_pos (by omega)]); try rfl)
  clear hw1 hnb heb hfb nb eb fb
  obtain ⟨ns, hns⟩ : ∃ ns : List NodeE, ns = [⟨1, 1, 2, 0, some ⟨w.heap.size + 1 + 1, 0, none⟩, 1, [aV]⟩, ⟨2, 5, 3, 1, none, 0, []⟩] := ⟨_, rfl⟩
  have hcon : conL ns = aL := by rw [hns]; rfl
  have hn2 : ns.length = 2 := by rw [hns]; rfl
  have HN0 : NodesAt w1 (some ⟨w.heap.size + 1 + 1 + 1, 0, none⟩) ns := by
    rw [hns]
    refine ⟨hNs, fun n hn => ?_, fun n hn => ?_⟩
    · rcases List.mem_cons.1 hn with rfl | hn
      · exact hVs
      · rw [List.mem_singleton] at hn; subst hn; exact SlAt.nil
    · rcases List.mem_cons.1 hn with rfl | hn
      · exact ⟨by simp, by simp [maxLen]⟩
      · rw [List.mem_singleton] at hn; subst hn; exact ⟨by simp, by simp [maxLen]⟩
  have hnf : ∀ n ∈ ns, n.fields.length ≤ 10000 := fun n hn => by
    rw [hns] at hn
    rcases List.mem_cons.1 hn with rfl | hn
    · simp
    · rw [List.mem_singleton] at hn; subst hn; simp
  have HN := HN0.later
  have HE : ∀ u [Later w1 u], SlAt StubE.cells 12 u (some ⟨w.heap.size + 1 + 1 + 1 + 1 + 1, 0, none⟩) [aE] := fun u i => hEs.below i.below
  have HC : ∀ (RA : Option Addr) (rc : Nat) (roots q : List IDE) (u : World) [Later w1 u], ReachL aL roots q → SlAt IDE.cells 2 u RA roots → roots.length ≤ 10000 → Calls Try.prog 12 #[.agg #[.slice (some ⟨w.heap.size + 1 + 1 + 1, 0, none⟩) 2 2], .slice RA roots.length rc, .slice none 0 0, .slice (some ⟨w.heap.size + 1 + 1 + 1 + 1 + 1, 0, none⟩) 1 1] u (ClsPost aL q [] [aE] u) := fun RA rc roots q u i hq hs hl => by
    have := cls_any (some ⟨w.heap.size + 1 + 1 + 1, 0, none⟩) 2 ns RA rc roots none 0 [] (some ⟨w.heap.size + 1 + 1 + 1 + 1 + 1, 0, none⟩) 1 [aE] q (hcon ▸ hq) u (HN u) hs SlAt.nil (HE u) (by omega) hnf hl (by simp) (by simp)
    rw [hn2, hcon] at this
    exact this
  have HS : ∀ (RA : Option Addr) (rc : Nat) (roots : List IDE) (u : World) [Later w1 u], SlAt IDE.cells 2 u RA roots → roots.length ≤ 10000 → Calls Try.prog 16 #[.agg #[.slice (some ⟨w.heap.size + 1 + 1 + 1, 0, none⟩) 2 2], .slice RA roots.length rc] u (ReachPost aL roots u) := fun RA rc roots u i hs hl => by
    have := strong_any (some ⟨w.heap.size + 1 + 1 + 1, 0, none⟩) 2 ns RA rc roots u (HN u) hs (by omega) hnf hl
    rw [hn2, hcon] at this
    exact this
  have HW : ∀ (WA : Option Addr) (wc : Nat) (weak : List IDE) (u : World) [Later w1 u], SlAt IDE.cells 2 u WA weak → weak.length ≤ 10000 → Calls Try.prog 17 #[.agg #[.slice (some ⟨w.heap.size + 1 + 1 + 1, 0, none⟩) 2 2], .slice none 0 0, .slice WA weak.length wc] u (SetIPost (weakL aL [] weak) u) := fun WA wc weak u i hs hl => by
    have := weakStubs_any (some ⟨w.heap.size + 1 + 1 + 1, 0, none⟩) 2 ns none 0 [] WA wc weak u (HN u) SlAt.nil hs (by omega) hnf (by simp) hl
    rw [hn2, hcon] at this
    exact this
  have B0 := boxed bx0
  have B1 := boxed bx1
  have B4 := boxed bx4
  have l11 : Later w1 w1 := Later.refl
  clear bx0 bx1 bx4 hNs hVs hEs hns hcon hn2 HN0 hnf HN HE
  go_upto_region 5 with (go_at_call 12; refine (HC (some ⟨w1.heap.size, 0, none⟩) 1 [iW] [iW] _ aw_reach1 (blk_slAt IDE.enc (fr := (0, 0)) (e := 37) (heap_alloc_new _ _) [iW] rfl) (by simp)).mono ?_; rintro r w2 ⟨o, OA, Oc, ho, rfl, hoo, hb2⟩; have l2 := later hb2; have l22 : Later w2 w2 := Later.refl; have hoe : o = [aE'] := ho.out.trans aw_cls1; subst hoe)
  go_upto_region 6 with (go_at_call 12; refine (HC (some ⟨w2.heap.size, 0, none⟩) 2 [iW, iS] [iW, iS] _ aw_reach2 (blk_slAt IDE.enc (fr := (0, 0)) (e := 37) (heap_alloc_new _ _) [iW, iS] rfl) (by simp)).mono ?_; rintro r w3 ⟨o3, OA3, Oc3, ho3, rfl, hoo3, hb3⟩; have l3 := later hb3; have l33 : Later w3 w3 := Later.refl; have hoe3 : o3 = [aE] := ho3.out.trans aw_cls2; subst hoe3)
  go_upto_region 7 with (go_at_call 12; refine (HC none 0 [] [] _ aw_reach0 SlAt.nil (by simp)).mono ?_; rintro r w4 ⟨o4, OA4, Oc4, ho4, rfl, hoo4, hb4⟩; have l4 := later hb4; have l44 : Later w4 w4 := Later.refl; have hoe4 : o4 = [] := ho4.out.trans aw_cls0; subst hoe4)
  obtain ⟨g, rfl⟩ := hoo.isSome (by simp)
  obtain ⟨g3, rfl⟩ := hoo3.isSome (by simp)
  have d0 := hoo.cell StubE.enc (k := 0) rfl (j := 8) rfl
  have d1 := hoo3.cell StubE.enc (k := 0) rfl (j := 8) rfl
  simp only [Nat.zero_mul, Nat.zero_add] at d0 d1
  have D0 := Later.cell d0
  have D1 := Later.cell d1
  clear d0 d1 hoo hoo3 hoo4 ho ho3 ho4 hb2 hb3 hb4 HC
  go_wp2_with (first
    | (go_at_call 16; refine (HS (some ⟨w4.heap.size, 0, none⟩) 1 [iW] _ (blk_slAt IDE.enc (fr := (0, 0)) (e := 37) (heap_alloc_new _ _) [iW] rfl) (by simp)).mono ?_; rintro r w5 ⟨q, QA, Qc, hq, rfl, hoq, hb5⟩; have l5 := later hb5; have l55 : Later w5 w5 := Later.refl; have hqe : q = [iW] := hq.unique aw_reach1; subst hqe)
    | (go_at_call 17; refine (HW (some ⟨w5.heap.size, 0, none⟩) 1 [iS] _ (blk_slAt IDE.enc (fr := (0, 0)) (e := 37) (heap_alloc_new _ _) [iS] rfl) (by simp)).mono ?_; rintro r w6 ⟨q6, A6, c6, hq6, rfl, ho6, hb6⟩; have l6 := later hb6; have l66 : Later w6 w6 := Later.refl; have hqe6 : q6 = [iS] := hq6.out.trans aw_weak; subst hqe6)
    | (go_at_call 14; refine (deadScions_any (some ⟨w6.heap.size, 0, none⟩) 1 [aC] none 0 [] _ (blk_slAt ScionE.enc (fr := (0, 0)) (e := 76) (heap_alloc_new _ _) [aC] rfl) SlAt.nil (by simp) (by simp)).mono ?_; rintro r w7 ⟨o7, A7, c7, ho7, rfl, hoo7, hb7⟩; have l7 := later hb7; have hqe7 : o7 = [⟨4, 3⟩] := ho7.out.trans aw_msg; subst hqe7))
  go_ret
  exact ⟨ret_bool (by rfl), below_of⟩
end Go.Proofs.Ytnfpbkimdhhmfaa

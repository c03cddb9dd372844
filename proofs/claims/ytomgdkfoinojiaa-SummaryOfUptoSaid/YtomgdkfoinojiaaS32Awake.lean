/-
  Contracts of the functions of this seat that each theorem names: what a call returns, and that it writes nothing that was there before. The conditions stand in each theorem.
-/
import Derived.Test.YtomgdkfoinojiaaS32Sum
import Derived.Test.YtomgdkfoinojiaaS32Same2
namespace Go.Proofs.Ytomgdkfoinojiaa
open Go.RowKit
attribute [local simp] heap_drew
abbrev xA : NodeC := ⟨1, 1, 0, 1, [⟨2, 0, 2, 1⟩]⟩
abbrev xB : NodeC := ⟨1, 2, 0, 1, [⟨2, 0, 1, 1⟩]⟩
abbrev xC : NodeC := ⟨2, 1, 3, 1, []⟩
abbrev xL : List NodeC := [xA, xB, xC]
abbrev xK : List ScionE := [⟨3, 9, 1, 2, 4, 0, 2, false, false, false, 0, 0⟩, ⟨2, 5, 1, 1, 1, 0, 6, false, false, false, 0, 0⟩]
abbrev xE : List StubE := [⟨2, 7, 2, 1, 0, 0, 0, false, false, false, 0, 0⟩]
theorem x_fa : firstN xL ⟨1, 1⟩ = some xA := by rfl
theorem x_fb : firstN xL ⟨1, 2⟩ = some xB := by rfl
theorem x_fc : firstN xL ⟨2, 1⟩ = some xC := by rfl
theorem x_ra : refsOf xA = [⟨2, 1⟩] := by rfl
theorem x_rb : refsOf xB = [⟨1, 1⟩] := by rfl
theorem x_reach_a {roots : List IDE} (h : Reach xL roots ⟨1, 1⟩) : Reach xL roots ⟨2, 1⟩ := .step h x_fa (by rw [x_ra]; simp) (by rw [x_fc]; rfl)
theorem x_reach_b {roots : List IDE} (h : Reach xL roots ⟨1, 2⟩) : Reach xL roots ⟨2, 1⟩ := x_reach_a (.step h x_fb (by rw [x_rb]; simp) (by rw [x_fa]; rfl))
theorem x_has_a : hasB xL [⟨1, 1⟩] ⟨2, 1⟩ = true := hasB_iff.2 (x_reach_a (.root (by simp) (by rw [x_fa]; rfl)))
theorem x_has_b : hasB xL [⟨1, 2⟩] ⟨2, 1⟩ = true := hasB_iff.2 (x_reach_b (.root (by simp) (by rw [x_fb]; rfl)))
theorem x_has_0 : hasB xL [] ⟨2, 1⟩ = false := by
  cases h : hasB xL [] ⟨2, 1⟩ with
  | false => rfl
  | true =>
    exfalso
    have := hasB_iff.1 h
    have key : ∀ x, Reach xL [] x → False := fun x hx => by
      induction hx with
      | root hr _ => cases hr
      | step _ _ _ _ ih => exact ih
    exact key _ this
theorem x_ins : insL xL xK ⟨2, 1⟩ = xK := by
  unfold insL
  rw [List.filter_eq_self]
  intro k hk
  rcases List.mem_cons.1 hk with rfl | hk
  · show (rootB _ && hasB xL [⟨1, 2⟩] ⟨2, 1⟩) = true
    rw [x_has_b]; rfl
  · rw [List.mem_singleton] at hk
    subst hk
    show (rootB _ && hasB xL [⟨1, 1⟩] ⟨2, 1⟩) = true
    rw [x_has_a]; rfl
theorem x_srt : Srt ltIn [⟨2, 5, 1⟩, ⟨3, 9, 4⟩] := by
  refine List.pairwise_cons.2 ⟨fun y hy => ?_, List.pairwise_singleton _ _⟩
  rw [List.mem_singleton] at hy
  subst hy
  unfold ltIn
  rw [cmpIn_lt]
  decide
theorem x_stb : Stb ltIn (xK.map toIn) [⟨2, 5, 1⟩, ⟨3, 9, 4⟩] := Stb.swap (lt := ltIn) (X := [⟨3, 9, 4⟩]) (Y := [⟨2, 5, 1⟩]) cmpIn_swo (fun x hx y hy => by
  rw [List.mem_singleton] at hx hy
  subst hx hy
  unfold ltIn
  rw [cmpIn_lt]
  decide)
theorem x_sort : sortL ltIn (xK.map toIn) = [⟨2, 5, 1⟩, ⟨3, 9, 4⟩] := (sortL_eq (lt := ltIn) (l := xK.map toIn) (l' := [⟨2, 5, 1⟩, ⟨3, 9, 4⟩]) cmpIn_swo x_srt x_stb).symm
theorem sortL_one {α : Type} [Inhabited α] {lt : α → α → Bool} (O : Go.Sort.SWO lt) (x : α) : sortL lt [x] = [x] := (sortL_eq O (List.pairwise_singleton _ _) Stb.refl).symm
theorem x_sum (roots : List IDE) (r : Bool) (h : hasB xL roots ⟨2, 1⟩ = r) : sumL xL roots xK xE = [⟨2, 7, r, if r then 1 else 3, [⟨2, 5, 1⟩, ⟨3, 9, 4⟩]⟩] := by
  have e : (xE.filter aliveB).map (sumOf xL roots xK) = [⟨2, 7, r, if r then 1 else 3, [⟨2, 5, 1⟩, ⟨3, 9, 4⟩]⟩] := by
    show [sumOf xL roots xK ⟨2, 7, 2, 1, 0, 0, 0, false, false, false, 0, 0⟩] = _
    unfold sumOf
    simp only [idS]
    rw [x_ins, x_sort, h]
    cases r <;> rfl
  unfold sumL
  rw [e, sortL_one ltC_swo]
/-- What example gives. -/
def ExPost (RA : Option Addr) (rc : Nat) (n : Nat) (w : World) (r : Ending) (w' : World) : Prop := ∃ GA KA EA ns, r = .returned (.agg #[.slice GA 3 3, .slice RA n rc, .slice KA 2 2, .slice EA 1 1, .int .i64 5]) ∧ Hid (conL ns = xL ∧ ns.length = 3 ∧ ∀ n ∈ ns, n.fields.length ≤ 10000) ∧ NodesAt w' GA ns ∧ SlAt ScionE.cells 12 w' KA xK ∧ SlAt StubE.cells 12 w' EA xE ∧ Below w.heap.size w w'
set_option maxRecDepth 100000 in
set_option maxHeartbeats 2000000 in
theorem example_any (RA : Option Addr) (rc : Nat) (n : Nat) (w : World) : Calls Try.prog 34 #[.slice RA n rc] w (ExPost RA rc n w) := by
  go_enter Try.func34, Try.ntmps34
  go_upto_region 3 with fail
  refine wp_name ?_
  intro w1 hw1
  have hNs : SlAt NodeE.cells 5 w1 (some ⟨w.heap.size + 1 + 1 + 1 + 1 + 1 + 1, 0, none⟩) [⟨1, 1, 0, 1, some ⟨w.heap.size + 1 + 1 + 1 + 1, 0, none⟩, 1, [⟨2, 0, 2, 1⟩]⟩, ⟨1, 2, 0, 1, some ⟨w.heap.size + 1 + 1 + 1 + 1 + 1, 0, none⟩, 1, [⟨2, 0, 1, 1⟩]⟩, ⟨2, 1, 3, 1, none, 0, []⟩] := blk_slAt NodeE.enc (fr := (0, 0)) (e := 78) (by rw [← hw1]; simp only [heap_alloc_if, World.size_alloc]; repeat (first | rw [if_pos trivial] | rw [if_neg (by omega)] | rw [if_pos (by omega)]); try rfl) _ rfl
  have hV1 : SlAt ValE.cells 4 w1 (some ⟨w.heap.size + 1 + 1 + 1 + 1, 0, none⟩) [⟨2, 0, 2, 1⟩] := blk_slAt ValE.enc (fr := (0, 0)) (e := 94) (by rw [← hw1]; simp only [heap_alloc_if, World.size_alloc]; repeat (first | rw [if_pos trivial] | rw [if_neg (by omega)] | rw [if_pos (by omega)]); try rfl) _ rfl
  have hV2 : SlAt ValE.cells 4 w1 (some ⟨w.heap.size + 1 + 1 + 1 + 1 + 1, 0, none⟩) [⟨2, 0, 1, 1⟩] := blk_slAt ValE.enc (fr := (0, 0)) (e := 94) (by rw [← hw1]; simp only [heap_alloc_if, World.size_alloc]; repeat (first | rw [if_pos trivial] | rw [if_neg (by omega)] | rw [if_pos (by omega)]); try rfl) _ rfl
  have b0 : w1.heap[w.heap.size]? = some (.cells #[.slice none 0 0, .slice none 0 0, .slice none 0 0, .slice none 0 0, .int .i64 0] 29 (0, 0)) := (by rw [← hw1]; simp only [heap_alloc_if, World.size_alloc]; repeat (first | rw [if_pos trivial] | rw [if_neg (by omega)] | rw [if_pos (by omega)]); try rfl)
  have b1 : w1.heap[w.heap.size + 1]? = some (.cells #[.int .i64 1, .int .i64 1] 45 (0, 0)) := (by rw [← hw1]; simp only [heap_alloc_if, World.size_alloc]; repeat (first | rw [if_pos trivial] | rw [if_neg (by omega)] | rw [if_pos (by omega)]); try rfl)
  have b2 : w1.heap[w.heap.size + 1 + 1]? = some (.cells #[.int .i64 1, .int .i64 2] 45 (0, 0)) := (by rw [← hw1]; simp only [heap_alloc_if, World.size_alloc]; repeat (first | rw [if_pos trivial] | rw [if_neg (by omega)] | rw [if_pos (by omega)]); try rfl)
  have b3 : w1.heap[w.heap.size + 1 + 1 + 1]? = some (.cells #[.int .i64 2, .int .i64 1] 45 (0, 0)) := (by rw [← hw1]; simp only [heap_alloc_if, World.size_alloc]; repeat (first | rw [if_pos trivial] | rw [if_neg (by omega)] | rw [if_pos (by omega)]); try rfl)
  have b7 : w1.heap[w.heap.size + 1 + 1 + 1 + 1 + 1 + 1 + 1]? = some (.cells #[.slice (some ⟨w.heap.size + 1 + 1 + 1 + 1 + 1 + 1, 0, none⟩) 3 3] 24 (0, 0)) := (by rw [← hw1]; simp only [heap_alloc_if, World.size_alloc]; repeat (first | rw [if_pos trivial] | rw [if_neg (by omega)] | rw [if_pos (by omega)]); try rfl)
  have hb1 : Below w.heap.size w w1 := by rw [← hw1]; exact (by repeat (first | with_reducible exact Below.refl _ _ | (with_reducible refine Below.drew ?_) | (with_reducible refine below_drewN ?_ _) | (with_reducible refine Below.alloc ?_ ?_ _; rotate_left; (first | omega | (simp <;> omega))) | (with_reducible refine Below.setCell ?_ ?_ _; rotate_left; (first | omega | (simp <;> omega)))))
  clear hw1
  have B0 := boxed b0
  have B1 := boxed b1
  have B2 := boxed b2
  have B3 := boxed b3
  have B7 := boxed b7
  have l11 : Later w1 w1 := Later.refl
  go_wp2_with fail
  have hw := blk_below b0 (show Below w1.heap.size w1 ((w1.alloc (.cells (xK.flatMap ScionE.cells).toArray 48)).alloc (.cells (xE.flatMap StubE.cells).toArray 52)) from below_of)
  obtain ⟨w2, hw2⟩ : ∃ w2, (w1.alloc (.cells (xK.flatMap ScionE.cells).toArray 48)).alloc (.cells (xE.flatMap StubE.cells).toArray 52) = w2 := ⟨_, rfl⟩
  have hK2 : SlAt ScionE.cells 12 w2 (some ⟨w1.heap.size, 0, none⟩) xK := blk_slAt ScionE.enc (fr := (0, 0)) (e := 48) (by rw [← hw2]; simp only [heap_alloc_if, World.size_alloc]; repeat (first | rw [if_pos trivial] | rw [if_neg (by omega)] | rw [if_pos (by omega)]); try rfl) _ rfl
  have hE2 : SlAt StubE.cells 12 w2 (some ⟨w1.heap.size + 1, 0, none⟩) xE := blk_slAt StubE.enc (fr := (0, 0)) (e := 52) (by rw [← hw2]; simp only [heap_alloc_if, World.size_alloc]; repeat (first | rw [if_pos trivial] | rw [if_neg (by omega)] | rw [if_pos (by omega)]); try rfl) _ rfl
  have hb2 : Below w1.heap.size w1 w2 := by rw [← hw2]; exact below_of
  rw [hw2] at hw
  show bodyPost Try.prog Try.f34 (ExPost RA rc n w) Exit.ret _ (((((((w1.alloc (.cells (xK.flatMap ScionE.cells).toArray 48)).alloc (.cells (xE.flatMap StubE.cells).toArray 52)).setCell _ _).setCell _ _).setCell _ _).setCell _ _).setCell _ _)
  rw [hw2]
  have hW := blk_set (blk_set (blk_set (blk_set (blk_set hw 0 (.slice (some ⟨w.heap.size + 1 + 1 + 1 + 1 + 1 + 1, 0, none⟩) 3 3)) 1 (.slice RA n rc)) 2 (.slice (some ⟨w1.heap.size, 0, none⟩) 2 2)) 3 (.slice (some ⟨w1.heap.size + 1, 0, none⟩) 1 1)) 4 (.int .i64 5)
  have r0 := blk_cell hW 0
  have r1 := blk_cell hW 1
  have r2 := blk_cell hW 2
  have r3 := blk_cell hW 3
  have r4 := blk_cell hW 4
  simp at r0 r1 r2 r3 r4
  refine bodyPost_ret (v := .agg #[.slice (some ⟨w.heap.size + 1 + 1 + 1 + 1 + 1 + 1, 0, none⟩) 3 3, .slice RA n rc, .slice (some ⟨w1.heap.size, 0, none⟩) 2 2, .slice (some ⟨w1.heap.size + 1, 0, none⟩) 1 1, .int .i64 5]) ?_ rfl ?_
  · simp [results, Try.results34, go_sem, r0, r1, r2, r3, r4]
  · have fr : ∀ {α : Type} {f : α → List Value} {s : Nat} {A : Option Addr} {l : List α}, SlAt f s w2 A l → (∀ b o, A = some ⟨b, o, none⟩ → b ≠ w.heap.size) → ∀ v0 v1 v2 v3 v4, SlAt f s (((((w2.setCell ⟨w.heap.size, 0, none⟩ v0).setCell ⟨w.heap.size, 1, none⟩ v1).setCell ⟨w.heap.size, 2, none⟩ v2).setCell ⟨w.heap.size, 3, none⟩ v3).setCell ⟨w.heap.size, 4, none⟩ v4) A l := fun h hA v0 v1 v2 v3 v4 hl => by
      obtain ⟨b, o, e, hb, hc⟩ := h hl
      refine ⟨b, o, e, by simpa [World.setCell] using hb, fun k x hk j u hu => ?_⟩
      have hne := hA b o e
      have := hc k x hk j u hu
      unfold World.cell? at this ⊢
      rw [blk_far (p := ⟨w.heap.size, 4, none⟩) hne, blk_far (p := ⟨w.heap.size, 3, none⟩) hne, blk_far (p := ⟨w.heap.size, 2, none⟩) hne, blk_far (p := ⟨w.heap.size, 1, none⟩) hne, blk_far (p := ⟨w.heap.size, 0, none⟩) hne]
      exact this
    have hz1 : w.heap.size < w1.heap.size := blk_lt b0
    refine ⟨_, _, _, [⟨1, 1, 0, 1, some ⟨w.heap.size + 1 + 1 + 1 + 1, 0, none⟩, 1, [⟨2, 0, 2, 1⟩]⟩, ⟨1, 2, 0, 1, some ⟨w.heap.size + 1 + 1 + 1 + 1 + 1, 0, none⟩, 1, [⟨2, 0, 1, 1⟩]⟩, ⟨2, 1, 3, 1, none, 0, []⟩], rfl, hide ⟨rfl, rfl, fun n hn => ?_⟩, ⟨fr (hNs.below hb2) (fun b o e => by injection e with e; injection e; omega) _ _ _ _ _, fun n hn => ?_, fun n hn => ?_⟩, fr hK2 (fun b o e => by injection e with e; injection e; omega) _ _ _ _ _, fr hE2 (fun b o e => by injection e with e; injection e; omega) _ _ _ _ _, ?_⟩
    · simp only [List.mem_cons, List.not_mem_nil, or_false] at hn
      rcases hn with rfl | rfl | rfl <;> simp
    · simp only [List.mem_cons, List.not_mem_nil, or_false] at hn
      rcases hn with rfl | rfl | rfl
      · exact fr (hV1.below hb2) (fun b o e => by injection e with e; injection e; omega) _ _ _ _ _
      · exact fr (hV2.below hb2) (fun b o e => by injection e with e; injection e; omega) _ _ _ _ _
      · exact SlAt.nil
    · simp only [List.mem_cons, List.not_mem_nil, or_false] at hn
      rcases hn with rfl | rfl | rfl <;> simp [maxLen]
    · exact ((((((hb1.trans (hb2.mono hb1.size)).setCell (p := ⟨w.heap.size, 0, none⟩) (Nat.le_refl _) _).setCell (p := ⟨w.heap.size, 1, none⟩) (Nat.le_refl _) _).setCell (p := ⟨w.heap.size, 2, none⟩) (Nat.le_refl _) _).setCell (p := ⟨w.heap.size, 3, none⟩) (Nat.le_refl _) _).setCell (p := ⟨w.heap.size, 4, none⟩) (Nat.le_refl _) _)
end Go.Proofs.Ytomgdkfoinojiaa

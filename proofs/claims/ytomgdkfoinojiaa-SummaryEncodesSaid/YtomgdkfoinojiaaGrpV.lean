/-
  Small texts of this seat, put into one. Conditions stand in each theorem.
-/
import Derived.Test.YtomgdkfoinojiaaS32Sum
import Derived.Test.YtomgdkfoinojiaaGrpT
set_option linter.unusedSimpArgs false
set_option linter.unusedVariables false
namespace Go.Proofs.Ytomgdkfoinojiaa
open Go.RowKit
attribute [local simp] heap_drew
abbrev xA : NodeC := ⟨1, 1, 0, 1, [⟨2, 0, 2, 1⟩]⟩
abbrev xB : NodeC := ⟨1, 2, 0, 1, [⟨2, 0, 1, 1⟩]⟩
abbrev xC : NodeC := ⟨2, 1, 3, 1, []⟩
abbrev xL : List NodeC := [xA, xB, xC]
abbrev xK : List ScionE := [⟨3, 9, 1, 2, 4, 0, 2, false, false, false, 0, 0⟩, ⟨2, 5, 1, 1, 1, 0, 6, false, false, false, 0, 0⟩]
abbrev xE : List StubE := [⟨2, 7, 2, 1, 0, 0, 0, false, false, false, 0, 0⟩]
theorem x_fa : firstN xL ⟨1, 1⟩ = some xA := by rfl
theorem x_fb : firstN xL ⟨1, 2⟩ = some xB := by rfl
theorem x_fc : firstN xL ⟨2, 1⟩ = some xC := by rfl
theorem x_ra : refsOf xA = [⟨2, 1⟩] := by rfl
theorem x_rb : refsOf xB = [⟨1, 1⟩] := by rfl
theorem x_reach_a {roots : List IDE} (h : Reach xL roots ⟨1, 1⟩) : Reach xL roots ⟨2, 1⟩ := .step h x_fa (by rw [x_ra]; simp) (by rw [x_fc]; rfl)
theorem x_reach_b {roots : List IDE} (h : Reach xL roots ⟨1, 2⟩) : Reach xL roots ⟨2, 1⟩ := x_reach_a (.step h x_fb (by rw [x_rb]; simp) (by rw [x_fa]; rfl))
theorem x_has_a : hasB xL [⟨1, 1⟩] ⟨2, 1⟩ = true := hasB_iff.2 (x_reach_a (.root (by simp) (by rw [x_fa]; rfl)))
theorem x_has_b : hasB xL [⟨1, 2⟩] ⟨2, 1⟩ = true := hasB_iff.2 (x_reach_b (.root (by simp) (by rw [x_fb]; rfl)))
theorem x_has_0 : hasB xL [] ⟨2, 1⟩ = false := by
  cases h : hasB xL [] ⟨2, 1⟩ with
  | false => rfl
  | true =>
    exfalso
    have := hasB_iff.1 h
    have key : ∀ x, Reach xL [] x → False := fun x hx => by
      induction hx with
      | root hr _ => cases hr
      | step _ _ _ _ ih => exact ih
    exact key _ this
theorem x_ins : insL xL xK ⟨2, 1⟩ = xK := by
  unfold insL
  rw [List.filter_eq_self]
  intro k hk
  rcases List.mem_cons.1 hk with rfl | hk
  · show (rootB _ && hasB xL [⟨1, 2⟩] ⟨2, 1⟩) = true
    rw [x_has_b]; rfl
  · rw [List.mem_singleton] at hk
    subst hk
    show (rootB _ && hasB xL [⟨1, 1⟩] ⟨2, 1⟩) = true
    rw [x_has_a]; rfl
theorem x_srt : Srt ltIn [⟨2, 5, 1⟩, ⟨3, 9, 4⟩] := by
  refine List.pairwise_cons.2 ⟨fun y hy => ?_, List.pairwise_singleton _ _⟩
  rw [List.mem_singleton] at hy
  subst hy
  unfold ltIn
  rw [cmpIn_lt]
  decide
theorem x_stb : Stb ltIn (xK.map toIn) [⟨2, 5, 1⟩, ⟨3, 9, 4⟩] := Stb.swap (lt := ltIn) (X := [⟨3, 9, 4⟩]) (Y := [⟨2, 5, 1⟩]) cmpIn_swo (fun x hx y hy => by
  rw [List.mem_singleton] at hx hy
  subst hx hy
  unfold ltIn
  rw [cmpIn_lt]
  decide)
theorem x_sort : sortL ltIn (xK.map toIn) = [⟨2, 5, 1⟩, ⟨3, 9, 4⟩] := (sortL_eq (lt := ltIn) (l := xK.map toIn) (l' := [⟨2, 5, 1⟩, ⟨3, 9, 4⟩]) cmpIn_swo x_srt x_stb).symm
theorem sortL_one {α : Type} [Inhabited α] {lt : α → α → Bool} (O : Go.Sort.SWO lt) (x : α) : sortL lt [x] = [x] := (sortL_eq O (List.pairwise_singleton _ _) Stb.refl).symm
theorem x_sum (roots : List IDE) (r : Bool) (h : hasB xL roots ⟨2, 1⟩ = r) : sumL xL roots xK xE = [⟨2, 7, r, if r then 1 else 3, [⟨2, 5, 1⟩, ⟨3, 9, 4⟩]⟩] := by
  have e : (xE.filter aliveB).map (sumOf xL roots xK) = [⟨2, 7, r, if r then 1 else 3, [⟨2, 5, 1⟩, ⟨3, 9, 4⟩]⟩] := by
    show [sumOf xL roots xK ⟨2, 7, 2, 1, 0, 0, 0, false, false, false, 0, 0⟩] = _
    unfold sumOf
    simp only [idS]
    rw [x_ins, x_sort, h]
    cases r <;> rfl
  unfold sumL
  rw [e, sortL_one ltC_swo]
/-- What example gives. -/
def ExPost (RA : Option Addr) (rc : Nat) (n : Nat) (w : World) (r : Ending) (w' : World) : Prop := ∃ GA KA EA ns, r = .returned (.agg #[.slice GA 3 3, .slice RA n rc, .slice KA 2 2, .slice EA 1 1, .int .i64 5]) ∧ Hid (conL ns = xL ∧ ns.length = 3 ∧ ∀ n ∈ ns, n.fields.length ≤ 10000) ∧ NodesAt w' GA ns ∧ SlAt ScionE.cells 12 w' KA xK ∧ SlAt StubE.cells 12 w' EA xE ∧ Below w.heap.size w w'
set_option maxRecDepth 100000 in
set_option maxHeartbeats 2000000 in
theorem example_any (RA : Option Addr) (rc : Nat) (n : Nat) (w : World) : Calls Try.prog 34 #[.slice RA n rc] w (ExPost RA rc n w) := by
  go_enter Try.func34, Try.ntmps34
  go_upto_region 3 with fail
  refine wp_name ?_
  intro w1 hw1
  have hNs : SlAt NodeE.cells 5 w1 (some ⟨w.heap.size + 1 + 1 + 1 + 1 + 1 + 1, 0, none⟩) [⟨1, 1, 0, 1, some ⟨w.heap.size + 1 + 1 + 1 + 1, 0, none⟩, 1, [⟨2, 0, 2, 1⟩]⟩, ⟨1, 2, 0, 1, some ⟨w.heap.size + 1 + 1 + 1 + 1 + 1, 0, none⟩, 1, [⟨2, 0, 1, 1⟩]⟩, ⟨2, 1, 3, 1, none, 0, []⟩] := blk_slAt NodeE.enc (fr := (0, 0)) (e := 78) (by rw [← hw1]; simp only [heap_alloc_if, World.size_alloc]; repeat (first | rw [if_pos trivial] | rw [if_neg (by omega)] | rw [if_pos (by omega)]); try rfl) _ rfl
  have hV1 : SlAt ValE.cells 4 w1 (some ⟨w.heap.size + 1 + 1 + 1 + 1, 0, none⟩) [⟨2, 0, 2, 1⟩] := blk_slAt ValE.enc (fr := (0, 0)) (e := 94) (by rw [← hw1]; simp only [heap_alloc_if, World.size_alloc]; repeat (first | rw [if_pos trivial] | rw [if_neg (by omega)] | rw [if_pos (by omega)]); try rfl) _ rfl
  have hV2 : SlAt ValE.cells 4 w1 (some ⟨w.heap.size + 1 + 1 + 1 + 1 + 1, 0, none⟩) [⟨2, 0, 1, 1⟩] := blk_slAt ValE.enc (fr := (0, 0)) (e := 94) (by rw [← hw1]; simp only [heap_alloc_if, World.size_alloc]; repeat (first | rw [if_pos trivial] | rw [if_neg (by omega)] | rw [if_pos (by omega)]); try rfl) _ rfl
  have b0 : w1.heap[w.heap.size]? = some (.cells #[.slice none 0 0, .slice none 0 0, .slice none 0 0, .slice none 0 0, .int .i64 0] 29 (0, 0)) := (by rw [← hw1]; simp only [heap_alloc_if, World.size_alloc]; repeat (first | rw [if_pos trivial] | rw [if_neg (by omega)] | rw [if_pos (by omega)]); try rfl)
  have b1 : w1.heap[w.heap.size + 1]? = some (.cells #[.int .i64 1, .int .i64 1] 45 (0, 0)) := (by rw [← hw1]; simp only [heap_alloc_if, World.size_alloc]; repeat (first | rw [if_pos trivial] | rw [if_neg (by omega)] | rw [if_pos (by omega)]); try rfl)
  have b2 : w1.heap[w.heap.size + 1 + 1]? = some (.cells #[.int .i64 1, .int .i64 2] 45 (0, 0)) := (by rw [← hw1]; simp only [heap_alloc_if, World.size_alloc]; repeat (first | rw [if_pos trivial] | rw [if_neg (by omega)] | rw [if_pos (by omega)]); try rfl)
  have b3 : w1.heap[w.heap.size + 1 + 1 + 1]? = some (.cells #[.int .i64 2, .int .i64 1] 45 (0, 0)) := (by rw [← hw1]; simp only [heap_alloc_if, World.size_alloc]; repeat (first | rw [if_pos trivial] | rw [if_neg (by omega)] | rw [if_pos (by omega)]); try rfl)
  have b7 : w1.heap[w.heap.size + 1 + 1 + 1 + 1 + 1 + 1 + 1]? = some (.cells #[.slice (some ⟨w.heap.size + 1 + 1 + 1 + 1 + 1 + 1, 0, none⟩) 3 3] 24 (0, 0)) := (by rw [← hw1]; simp only [heap_alloc_if, World.size_alloc]; repeat (first | rw [if_pos trivial] | rw [if_neg (by omega)] | rw [if_pos (by omega)]); try rfl)
  have hb1 : Below w.heap.size w w1 := by rw [← hw1]; exact (by repeat (first | with_reducible exact Below.refl _ _ | (with_reducible refine Below.drew ?_) | (with_reducible refine below_drewN ?_ _) | (with_reducible refine Below.alloc ?_ ?_ _; rotate_left; (first | omega | (simp <;> omega))) | (with_reducible refine Below.setCell ?_ ?_ _; rotate_left; (first | omega | (simp <;> omega)))))
  clear hw1
  have B0 := boxed b0
  have B1 := boxed b1
  have B2 := boxed b2
  have B3 := boxed b3
  have B7 := boxed b7
  have l11 : Later w1 w1 := Later.refl
  go_wp2_with fail
  have hw := blk_below b0 (show Below w1.heap.size w1 ((w1.alloc (.cells (xK.flatMap ScionE.cells).toArray 48)).alloc (.cells (xE.flatMap StubE.cells).toArray 52)) from below_of)
  obtain ⟨w2, hw2⟩ : ∃ w2, (w1.alloc (.cells (xK.flatMap ScionE.cells).toArray 48)).alloc (.cells (xE.flatMap StubE.cells).toArray 52) = w2 := ⟨_, rfl⟩
  have hK2 : SlAt ScionE.cells 12 w2 (some ⟨w1.heap.size, 0, none⟩) xK := blk_slAt ScionE.enc (fr := (0, 0)) (e := 48) (by rw [← hw2]; simp only [heap_alloc_if, World.size_alloc]; repeat (first | rw [if_pos trivial] | rw [if_neg (by omega)] | rw [if_pos (by omega)]); try rfl) _ rfl
  have hE2 : SlAt StubE.cells 12 w2 (some ⟨w1.heap.size + 1, 0, none⟩) xE := blk_slAt StubE.enc (fr := (0, 0)) (e := 52) (by rw [← hw2]; simp only [heap_alloc_if, World.size_alloc]; repeat (first | rw [if_pos trivial] | rw [if_neg (by omega)] | rw [if_pos (by omega)]); try rfl) _ rfl
  have hb2 : Below w1.heap.size w1 w2 := by rw [← hw2]; exact below_of
  rw [hw2] at hw
  show bodyPost Try.prog Try.f34 (ExPost RA rc n w) Exit.ret _ (((((((w1.alloc (.cells (xK.flatMap ScionE.cells).toArray 48)).alloc (.cells (xE.flatMap StubE.cells).toArray 52)).setCell _ _).setCell _ _).setCell _ _).setCell _ _).setCell _ _)
  rw [hw2]
  have hW := blk_set (blk_set (blk_set (blk_set (blk_set hw 0 (.slice (some ⟨w.heap.size + 1 + 1 + 1 + 1 + 1 + 1, 0, none⟩) 3 3)) 1 (.slice RA n rc)) 2 (.slice (some ⟨w1.heap.size, 0, none⟩) 2 2)) 3 (.slice (some ⟨w1.heap.size + 1, 0, none⟩) 1 1)) 4 (.int .i64 5)
  have r0 := blk_cell hW 0
  have r1 := blk_cell hW 1
  have r2 := blk_cell hW 2
  have r3 := blk_cell hW 3
  have r4 := blk_cell hW 4
  simp at r0 r1 r2 r3 r4
  refine bodyPost_ret (v := .agg #[.slice (some ⟨w.heap.size + 1 + 1 + 1 + 1 + 1 + 1, 0, none⟩) 3 3, .slice RA n rc, .slice (some ⟨w1.heap.size, 0, none⟩) 2 2, .slice (some ⟨w1.heap.size + 1, 0, none⟩) 1 1, .int .i64 5]) ?_ rfl ?_
  · simp [results, Try.results34, go_sem, r0, r1, r2, r3, r4]
  · have fr : ∀ {α : Type} {f : α → List Value} {s : Nat} {A : Option Addr} {l : List α}, SlAt f s w2 A l → (∀ b o, A = some ⟨b, o, none⟩ → b ≠ w.heap.size) → ∀ v0 v1 v2 v3 v4, SlAt f s (((((w2.setCell ⟨w.heap.size, 0, none⟩ v0).setCell ⟨w.heap.size, 1, none⟩ v1).setCell ⟨w.heap.size, 2, none⟩ v2).setCell ⟨w.heap.size, 3, none⟩ v3).setCell ⟨w.heap.size, 4, none⟩ v4) A l := fun h hA v0 v1 v2 v3 v4 hl => by
      obtain ⟨b, o, e, hb, hc⟩ := h hl
      refine ⟨b, o, e, by simpa [World.setCell] using hb, fun k x hk j u hu => ?_⟩
      have hne := hA b o e
      have := hc k x hk j u hu
      unfold World.cell? at this ⊢
      rw [blk_far (p := ⟨w.heap.size, 4, none⟩) hne, blk_far (p := ⟨w.heap.size, 3, none⟩) hne, blk_far (p := ⟨w.heap.size, 2, none⟩) hne, blk_far (p := ⟨w.heap.size, 1, none⟩) hne, blk_far (p := ⟨w.heap.size, 0, none⟩) hne]
      exact this
    have hz1 : w.heap.size < w1.heap.size := blk_lt b0
    refine ⟨_, _, _, [⟨1, 1, 0, 1, some ⟨w.heap.size + 1 + 1 + 1 + 1, 0, none⟩, 1, [⟨2, 0, 2, 1⟩]⟩, ⟨1, 2, 0, 1, some ⟨w.heap.size + 1 + 1 + 1 + 1 + 1, 0, none⟩, 1, [⟨2, 0, 1, 1⟩]⟩, ⟨2, 1, 3, 1, none, 0, []⟩], rfl, hide ⟨rfl, rfl, fun n hn => ?_⟩, ⟨fr (hNs.below hb2) (fun b o e => by injection e with e; injection e; omega) _ _ _ _ _, fun n hn => ?_, fun n hn => ?_⟩, fr hK2 (fun b o e => by injection e with e; injection e; omega) _ _ _ _ _, fr hE2 (fun b o e => by injection e with e; injection e; omega) _ _ _ _ _, ?_⟩
    · simp only [List.mem_cons, List.not_mem_nil, or_false] at hn
      rcases hn with rfl | rfl | rfl <;> simp
    · simp only [List.mem_cons, List.not_mem_nil, or_false] at hn
      rcases hn with rfl | rfl | rfl
      · exact fr (hV1.below hb2) (fun b o e => by injection e with e; injection e; omega) _ _ _ _ _
      · exact fr (hV2.below hb2) (fun b o e => by injection e with e; injection e; omega) _ _ _ _ _
      · exact SlAt.nil
    · simp only [List.mem_cons, List.not_mem_nil, or_false] at hn
      rcases hn with rfl | rfl | rfl <;> simp [maxLen]
    · exact ((((((hb1.trans (hb2.mono hb1.size)).setCell (p := ⟨w.heap.size, 0, none⟩) (Nat.le_refl _) _).setCell (p := ⟨w.heap.size, 1, none⟩) (Nat.le_refl _) _).setCell (p := ⟨w.heap.size, 2, none⟩) (Nat.le_refl _) _).setCell (p := ⟨w.heap.size, 3, none⟩) (Nat.le_refl _) _).setCell (p := ⟨w.heap.size, 4, none⟩) (Nat.le_refl _) _)
end Go.Proofs.Ytomgdkfoinojiaa

namespace Go.Proofs.Ytomgdkfoinojiaa
open Go.RowKit
attribute [local simp] heap_drew
set_option maxRecDepth 100000 in
set_option maxHeartbeats 2000000 in
theorem of_any (A : Option Addr) (c : Nat) (l : List NodeE) (RA : Option Addr) (rc : Nat) (roots : List IDE) (KA : Option Addr) (kc : Nat) (ks : List ScionE) (EA : Option Addr) (ec : Nat) (es : List StubE) (ep : Int) (w : World) (H : NodesAt w A l) (hR : SlAt IDE.cells 2 w RA roots) (hK : SlAt ScionE.cells 12 w KA ks) (hE : SlAt StubE.cells 12 w EA es)
    (hl : l.length ≤ 10000) (hf : ∀ n ∈ l, n.fields.length ≤ 10000) (hrl : roots.length ≤ 10000) (hkl : ks.length ≤ 10000) (hel : es.length ≤ 10000) :
    Calls Try.prog 13 #[.agg #[.slice A l.length c, .slice RA roots.length rc, .slice KA ks.length kc, .slice EA es.length ec, .int .i64 ep]] w (SumPost ep (sumL (conL l) roots ks es) w) := by
  have HS : ∀ u [Later w u], Calls Try.prog 32 #[.agg #[.slice A l.length c], .slice RA roots.length rc, .slice KA ks.length kc, .slice EA es.length ec, .int .i64 ep] u (SumPost ep (sumL (conL l) roots ks es) u) := fun u i => summarize_any A c l RA rc roots KA kc ks EA ec es ep u (H.later u) (hR.below i.below) (hK.below i.below) (hE.below i.below) hl hf hrl hkl hel
  go_enter Try.func13, Try.ntmps13
  go_upto_region 1 with fail
  refine wp_name ?_
  intro w0 hw0
  obtain ⟨B0, B1, l0⟩ := box2 hw0
  clear hw0
  go_wp2_with (go_at_call 32; refine (HS _).mono ?_; rintro r w1 ⟨q, SA, SC, hq, rfl, hoq, hiq, hb1⟩; have l1 := later hb1)
  have h1 := (B1 w1).1
  have hb : Below w.heap.size w w1 := below_of
  have hz0 : w.heap.size + 1 < w0.heap.size := boxed_lt B1
  have hW := blk_set (blk_set h1 0 (.int .i64 ep)) 1 (.slice SA q.length SC)
  have r0 := blk_cell hW 0
  have r1 := blk_cell hW 1
  simp at r0 r1
  have g1 := own_off hoq h1 (by decide)
  have h1' := blk_set h1 0 (.int .i64 ep)
  have hc1 := hoq.far (p := ⟨w.heap.size + 1, 0, none⟩) g1 (.int .i64 ep)
  have hc2 := hc1.far (p := ⟨w.heap.size + 1, 1, none⟩) (own_off hc1 h1' (by decide)) (.slice SA q.length SC)
  have hi2 : InsOwn w0.heap.size ((w1.setCell ⟨w.heap.size + 1, 0, none⟩ (.int .i64 ep)).setCell ⟨w.heap.size + 1, 1, none⟩ (.slice SA q.length SC)) q := fun n hn => by
    have a1 := hiq n hn
    have a2 := a1.far (p := ⟨w.heap.size + 1, 0, none⟩) (own_off a1 h1 (by decide)) (.int .i64 ep)
    exact a2.far (p := ⟨w.heap.size + 1, 1, none⟩) (own_off a2 h1' (by decide)) _
  refine bodyPost_ret (v := .agg #[.int .i64 ep, .slice SA q.length SC]) ?_ rfl ?_
  · simp [results, Try.results13, go_sem, r0, r1]
  · exact ⟨q, SA, SC, hq, rfl, hc2.mono (by omega), fun n hn => (hi2 n hn).mono (by omega), (hb.setCell (p := ⟨w.heap.size + 1, 0, none⟩) (by simp) _).setCell (p := ⟨w.heap.size + 1, 1, none⟩) (by simp) _⟩
theorem of_ex (RA : Option Addr) (rc : Nat) (roots : List IDE) (V : Bool) (hV : hasB xL roots ⟨2, 1⟩ = V) (GA KA EA : Option Addr) (ns : List NodeE) (u : World) (hns : conL ns = xL ∧ ns.length = 3 ∧ ∀ n ∈ ns, n.fields.length ≤ 10000) (hN : NodesAt u GA ns) (hK : SlAt ScionE.cells 12 u KA xK) (hE : SlAt StubE.cells 12 u EA xE) (hR : SlAt IDE.cells 2 u RA roots) (hr : roots.length ≤ 10000) :
    Calls Try.prog 13 #[.agg #[.slice GA 3 3, .slice RA roots.length rc, .slice KA 2 2, .slice EA 1 1, .int .i64 5]] u (SumPost 5 [⟨2, 7, V, if V then 1 else 3, [⟨2, 5, 1⟩, ⟨3, 9, 4⟩]⟩] u) := by
  have hOf := of_any GA 3 ns RA rc roots KA 2 xK EA 1 xE 5 u hN hR hK hE (by rw [hns.2.1]; omega) hns.2.2 hr (by simp) (by simp)
  rw [hns.1, hns.2.1, x_sum roots V hV] at hOf
  exact hOf
theorem same_ex (QA B : Option Addr) (Qc : Nat) (q : List SumE) (x : SumE) (u : World) (hq : q.map SumE.con = [x.con]) (hqs : SumsAt u QA q) (hs : SlAt SumE.cells 5 u B [x]) (hx : SlAt InsetE.cells 3 u x.A x.inset) (hc : x.inset.length ≤ x.c ∧ x.c ≤ maxLen) (hl : x.inset.length ≤ 1000000) :
    Calls Try.prog 12 #[.agg #[.int .i64 5, .slice QA q.length Qc], .agg #[.int .i64 5, .slice B 1 1]] u fun r w' => r = .returned (.bool true) ∧ Below u.heap.size u w' := by
  have hq1 : q.length = 1 := by have := congrArg List.length hq; simpa using this
  have hqi : ∀ n ∈ q, n.inset.length ≤ 1000000000 := fun n hn => by
    have : n.con ∈ q.map SumE.con := List.mem_map_of_mem hn
    rw [hq, List.mem_singleton] at this
    have h2 : n.inset = n.con.inset := rfl
    have h3 : x.con.inset = x.inset := rfl
    rw [h2, this, h3]; omega
  have h := same32_any 5 5 QA B Qc 1 q [x] u hqs ⟨hs, fun n hn => by rw [List.mem_singleton] at hn; subst hn; exact hx, fun n hn => by rw [List.mem_singleton] at hn; subst hn; exact hc⟩ (by omega) (by simp) hqi (fun n hn => by rw [List.mem_singleton] at hn; subst hn; omega)
  rw [show decide ((5 : Int) = 5 ∧ q.map SumE.con = [x].map SumE.con) = true from decide_eq_true ⟨rfl, hq⟩] at h
  exact h
set_option maxRecDepth 100000 in
set_option maxHeartbeats 4000000 in
theorem awake_any (w : World) : Calls Try.prog 15 #[] w fun r w' => r = .returned (.bool true) ∧ Below w.heap.size w w' := by
  go_enter Try.func15, Try.ntmps15
  go_upto_region 2 with fail
  refine wp_name ?_
  intro w1 hw1
  have bI : w1.heap[w.heap.size]? = some (.cells #[.int .i64 2, .int .u64 5, .int .i64 1, .int .i64 3, .int .u64 9, .int .i64 4] 58 (0, 0)) := (by rw [← hw1]; simp only [heap_alloc_if, World.size_alloc]; repeat (first | rw [if_pos trivial] | rw [if_neg (by omega)] | rw [if_pos (by omega)]); try rfl)
  have hI : SlAt InsetE.cells 3 w1 (some ⟨w.heap.size, 0, none⟩) [⟨2, 5, 1⟩, ⟨3, 9, 4⟩] := blk_slAt InsetE.enc (fr := (0, 0)) (e := 58) (by rw [← hw1]; simp only [heap_alloc_if, World.size_alloc]; repeat (first | rw [if_pos trivial] | rw [if_neg (by omega)] | rw [if_pos (by omega)]); try rfl) _ rfl
  have b1 : w1.heap[w.heap.size + 1]? = some (.cells #[.int .i64 2, .int .u64 7, .bool false, .int .i64 3, .slice (some ⟨w.heap.size, 0, none⟩) 2 2] 41 (0, 0)) := (by rw [← hw1]; simp only [heap_alloc_if, World.size_alloc]; repeat (first | rw [if_pos trivial] | rw [if_neg (by omega)] | rw [if_pos (by omega)]); try rfl)
  have hb1 : Below w.heap.size w w1 := by rw [← hw1]; exact (by repeat (first | with_reducible exact Below.refl _ _ | (with_reducible refine Below.drew ?_) | (with_reducible refine below_drewN ?_ _) | (with_reducible refine Below.alloc ?_ ?_ _; rotate_left; (first | omega | (simp <;> omega))) | (with_reducible refine Below.setCell ?_ ?_ _; rotate_left; (first | omega | (simp <;> omega)))))
  clear hw1
  have B1 := boxed b1
  have l11 : Later w1 w1 := Later.refl
  have l1 := later hb1
  have hR : SlAt IDE.cells 2 w1 none [] := SlAt.nil
  go_cut [12] from 6 (fun s12 wx => s12 = .bool false ∧ Below w1.heap.size w1 wx)
  case first =>
    refine wp_region_held_drew (S := fun w' => ∀ b [Later b w1], Later b w') (by kernel_rfl) (by intro b _; infer_instance) (fun hHeld => ?_)
    refine wpAnyH_take (i := 2) (oi := _) (v := ?_) rfl (by kernel_rfl) (by kernel_rfl) (by kernel_rfl) (fun _ _ _ h => h) (Or.inl ⟨by rfl, ?_⟩) (by assumption) ?_
    rotate_left 1
    · (intro wy hSw; (try dsimp only at hSw); go_simp; try with_reducible rfl)
    (try simp only [Act.put])
    refine wpAnyH_ready (rs := [0, 3]) (by kernel_rfl) (by simp) ?_
    refine AllReadyH.cons (o := _) rfl (fun K9 hK9 => ?_) (AllReadyH.cons (o := _) rfl (fun K9 hK9 => ?_) AllReadyH.nil)
    · go_simp
      refine (example_any none 0 0 _).mono ?_
      rintro r w2 ⟨GA, KA, EA, ns, rfl, hns, hN, hK, hE, hb2⟩
      have l2 := later hb2
      have l22 : Later w2 w2 := Later.refl
      (try dsimp only)
      refine hK9.out _ _ (by intro b _; infer_instance) (fun hHeld => ?_)
      clear hK9 K9
      (try simp only [Act.put])
      refine wpAnyH_ready (rs := [1, 3]) (by kernel_rfl) (by simp) ?_
      refine AllReadyH.cons (o := _) rfl (fun K9 hK9 => ?_) (AllReadyH.cons (o := _) rfl (fun K9 hK9 => ?_) AllReadyH.nil)
      · go_simp
        refine (of_ex none 0 [] false (by first | exact x_has_0 | exact x_has_b) GA KA EA ns _ hns.out (hN.later _) (hK.later _) (hE.later _) (hR.later _) (by simp)).mono ?_
        rintro r w3 ⟨q, QA, Qc, hq, rfl, hoq, hiq, hb3⟩
        have l3 := later hb3
        have l33 : Later w3 w3 := Later.refl
        have hqs : ∀ u [Later w3 u], SumsAt u QA q := fun u i => (hiq.below i.below).sums ((hoq.below i.below).at_ SumE.enc).2.2
        clear hoq hiq
        (try dsimp only)
        refine hK9.out _ _ (by intro b _; infer_instance) (fun hHeld => ?_)
        clear hK9 K9
        (try simp only [Act.put])
        refine wpAnyH_ready (rs := [3]) (by kernel_rfl) (by simp) ?_
        refine AllReadyH.cons (o := _) rfl (fun K9 hK9 => ?_) AllReadyH.nil
        go_simp
        have hSl : SlAt SumE.cells 5 (w3.alloc (.cells #[.int .i64 2, .int .u64 7, .bool false, .int .i64 3, .slice (some ⟨w.heap.size, 0, none⟩) 2 2] 41)) (some ⟨w3.heap.size, 0, none⟩) [(⟨2, 7, false, 3, some ⟨w.heap.size, 0, none⟩, 2, [⟨2, 5, 1⟩, ⟨3, 9, 4⟩]⟩ : SumE)] := blk_slAt SumE.enc (fr := (0, 0)) (e := 41) (heap_alloc_new _ _) [(⟨2, 7, false, 3, some ⟨w.heap.size, 0, none⟩, 2, [⟨2, 5, 1⟩, ⟨3, 9, 4⟩]⟩ : SumE)] rfl
        refine hK9.out _ _ (by intro b _; infer_instance) (fun hHeld => ?_)
        clear hK9 K9
        (try simp only [Act.put])
        refine wpAnyH_take (i := 4) (oi := _) (v := ?_) rfl (by kernel_rfl) (by kernel_rfl) (by kernel_rfl) (fun _ _ _ h => h) (Or.inl ⟨by rfl, ?_⟩) (by assumption) ?_
        rotate_left 1
        · (intro wy hSw; (try dsimp only at hSw); go_simp; try with_reducible rfl)
        (try simp only [Act.put])
        refine wpAnyH_ready (rs := [5]) (by kernel_rfl) (by simp) ?_
        refine AllReadyH.cons (o := _) rfl (fun K9 hK9 => ?_) AllReadyH.nil
        go_simp
        refine (same_ex QA (some ⟨w3.heap.size, 0, none⟩) Qc q (⟨2, 7, false, 3, some ⟨w.heap.size, 0, none⟩, 2, [⟨2, 5, 1⟩, ⟨3, 9, 4⟩]⟩ : SumE) _ hq.out (hqs _) (hSl.later _) (hI.later _) (by simp [maxLen]) (by simp)).mono ?_
        rintro r w5 ⟨rfl, hb5⟩
        have l5 := later hb5
        (try dsimp only)
        refine hK9.out _ _ (by intro b _; infer_instance) (fun hHeld => ?_)
        clear hK9 K9
        (try simp only [Act.put])
        refine wpAnyH_ready (rs := [6]) (by kernel_rfl) (by simp) ?_
        refine AllReadyH.cons (o := _) rfl (fun K9 hK9 => ?_) AllReadyH.nil
        go_simp
        refine hK9.out _ _ (by intro b _; infer_instance) (fun hHeld => ?_)
        clear hK9 K9
        (try simp only [Act.put])
        refine wpAnyH_done (by kernel_rfl) ?_ _
        go_wp2_with fail
        go_meet
        exact ⟨rfl, below_of⟩
      · go_simp
        have hSl : SlAt SumE.cells 5 (w2.alloc (.cells #[.int .i64 2, .int .u64 7, .bool false, .int .i64 3, .slice (some ⟨w.heap.size, 0, none⟩) 2 2] 41)) (some ⟨w2.heap.size, 0, none⟩) [(⟨2, 7, false, 3, some ⟨w.heap.size, 0, none⟩, 2, [⟨2, 5, 1⟩, ⟨3, 9, 4⟩]⟩ : SumE)] := blk_slAt SumE.enc (fr := (0, 0)) (e := 41) (heap_alloc_new _ _) [(⟨2, 7, false, 3, some ⟨w.heap.size, 0, none⟩, 2, [⟨2, 5, 1⟩, ⟨3, 9, 4⟩]⟩ : SumE)] rfl
        refine hK9.out _ _ (by intro b _; infer_instance) (fun hHeld => ?_)
        clear hK9 K9
        (try simp only [Act.put])
        refine wpAnyH_take (i := 4) (oi := _) (v := ?_) rfl (by kernel_rfl) (by kernel_rfl) (by kernel_rfl) (fun _ _ _ h => h) (Or.inl ⟨by rfl, ?_⟩) (by assumption) ?_
        rotate_left 1
        · (intro wy hSw; (try dsimp only at hSw); go_simp; try with_reducible rfl)
        (try simp only [Act.put])
        refine wpAnyH_ready (rs := [1]) (by kernel_rfl) (by simp) ?_
        refine AllReadyH.cons (o := _) rfl (fun K9 hK9 => ?_) AllReadyH.nil
        go_simp
        refine (of_ex none 0 [] false (by first | exact x_has_0 | exact x_has_b) GA KA EA ns _ hns.out (hN.later _) (hK.later _) (hE.later _) (hR.later _) (by simp)).mono ?_
        rintro r w3 ⟨q, QA, Qc, hq, rfl, hoq, hiq, hb3⟩
        have l3 := later hb3
        have l33 : Later w3 w3 := Later.refl
        have hqs : ∀ u [Later w3 u], SumsAt u QA q := fun u i => (hiq.below i.below).sums ((hoq.below i.below).at_ SumE.enc).2.2
        clear hoq hiq
        (try dsimp only)
        have hSl := hSl.below hb3
        refine hK9.out _ _ (by intro b _; infer_instance) (fun hHeld => ?_)
        clear hK9 K9
        (try simp only [Act.put])
        refine wpAnyH_ready (rs := [5]) (by kernel_rfl) (by simp) ?_
        refine AllReadyH.cons (o := _) rfl (fun K9 hK9 => ?_) AllReadyH.nil
        go_simp
        refine (same_ex QA (some ⟨w2.heap.size, 0, none⟩) Qc q (⟨2, 7, false, 3, some ⟨w.heap.size, 0, none⟩, 2, [⟨2, 5, 1⟩, ⟨3, 9, 4⟩]⟩ : SumE) _ hq.out (hqs _) (hSl.later _) (hI.later _) (by simp [maxLen]) (by simp)).mono ?_
        rintro r w5 ⟨rfl, hb5⟩
        have l5 := later hb5
        (try dsimp only)
        refine hK9.out _ _ (by intro b _; infer_instance) (fun hHeld => ?_)
        clear hK9 K9
        (try simp only [Act.put])
        refine wpAnyH_ready (rs := [6]) (by kernel_rfl) (by simp) ?_
        refine AllReadyH.cons (o := _) rfl (fun K9 hK9 => ?_) AllReadyH.nil
        go_simp
        refine hK9.out _ _ (by intro b _; infer_instance) (fun hHeld => ?_)
        clear hK9 K9
        (try simp only [Act.put])
        refine wpAnyH_done (by kernel_rfl) ?_ _
        go_wp2_with fail
        go_meet
        exact ⟨rfl, below_of⟩
    · go_simp
      have hSl : SlAt SumE.cells 5 (w1.drew.alloc (.cells #[.int .i64 2, .int .u64 7, .bool false, .int .i64 3, .slice (some ⟨w.heap.size, 0, none⟩) 2 2] 41)) (some ⟨w1.drew.heap.size, 0, none⟩) [(⟨2, 7, false, 3, some ⟨w.heap.size, 0, none⟩, 2, [⟨2, 5, 1⟩, ⟨3, 9, 4⟩]⟩ : SumE)] := blk_slAt SumE.enc (fr := (0, 0)) (e := 41) (heap_alloc_new _ _) [(⟨2, 7, false, 3, some ⟨w.heap.size, 0, none⟩, 2, [⟨2, 5, 1⟩, ⟨3, 9, 4⟩]⟩ : SumE)] rfl
      refine hK9.out _ _ (by intro b _; infer_instance) (fun hHeld => ?_)
      clear hK9 K9
      (try simp only [Act.put])
      refine wpAnyH_take (i := 4) (oi := _) (v := ?_) rfl (by kernel_rfl) (by kernel_rfl) (by kernel_rfl) (fun _ _ _ h => h) (Or.inl ⟨by rfl, ?_⟩) (by assumption) ?_
      rotate_left 1
      · (intro wy hSw; (try dsimp only at hSw); go_simp; try with_reducible rfl)
      (try simp only [Act.put])
      refine wpAnyH_ready (rs := [0]) (by kernel_rfl) (by simp) ?_
      refine AllReadyH.cons (o := _) rfl (fun K9 hK9 => ?_) AllReadyH.nil
      go_simp
      refine (example_any none 0 0 _).mono ?_
      rintro r w2 ⟨GA, KA, EA, ns, rfl, hns, hN, hK, hE, hb2⟩
      have l2 := later hb2
      have l22 : Later w2 w2 := Later.refl
      (try dsimp only)
      have hSl := hSl.below hb2
      refine hK9.out _ _ (by intro b _; infer_instance) (fun hHeld => ?_)
      clear hK9 K9
      (try simp only [Act.put])
      refine wpAnyH_ready (rs := [1]) (by kernel_rfl) (by simp) ?_
      refine AllReadyH.cons (o := _) rfl (fun K9 hK9 => ?_) AllReadyH.nil
      go_simp
      refine (of_ex none 0 [] false (by first | exact x_has_0 | exact x_has_b) GA KA EA ns _ hns.out (hN.later _) (hK.later _) (hE.later _) (hR.later _) (by simp)).mono ?_
      rintro r w3 ⟨q, QA, Qc, hq, rfl, hoq, hiq, hb3⟩
      have l3 := later hb3
      have l33 : Later w3 w3 := Later.refl
      have hqs : ∀ u [Later w3 u], SumsAt u QA q := fun u i => (hiq.below i.below).sums ((hoq.below i.below).at_ SumE.enc).2.2
      clear hoq hiq
      (try dsimp only)
      have hSl := hSl.below hb3
      refine hK9.out _ _ (by intro b _; infer_instance) (fun hHeld => ?_)
      clear hK9 K9
      (try simp only [Act.put])
      refine wpAnyH_ready (rs := [5]) (by kernel_rfl) (by simp) ?_
      refine AllReadyH.cons (o := _) rfl (fun K9 hK9 => ?_) AllReadyH.nil
      go_simp
      refine (same_ex QA (some ⟨w1.heap.size, 0, none⟩) Qc q (⟨2, 7, false, 3, some ⟨w.heap.size, 0, none⟩, 2, [⟨2, 5, 1⟩, ⟨3, 9, 4⟩]⟩ : SumE) _ hq.out (hqs _) (hSl.later _) (hI.later _) (by simp [maxLen]) (by simp)).mono ?_
      rintro r w5 ⟨rfl, hb5⟩
      have l5 := later hb5
      (try dsimp only)
      refine hK9.out _ _ (by intro b _; infer_instance) (fun hHeld => ?_)
      clear hK9 K9
      (try simp only [Act.put])
      refine wpAnyH_ready (rs := [6]) (by kernel_rfl) (by simp) ?_
      refine AllReadyH.cons (o := _) rfl (fun K9 hK9 => ?_) AllReadyH.nil
      go_simp
      refine hK9.out _ _ (by intro b _; infer_instance) (fun hHeld => ?_)
      clear hK9 K9
      (try simp only [Act.put])
      refine wpAnyH_done (by kernel_rfl) ?_ _
      go_wp2_with fail
      go_meet
      exact ⟨rfl, below_of⟩
  case rest =>
    obtain ⟨rfl, hbc⟩ := hcut
    go_upto_region 5 with fail
    refine wp_name ?_
    intro w6 hw6
    have bc := blk_below b1 hbc
    have bIc := blk_below bI hbc
    have b6 : w6.heap[w.heap.size + 1]? = some (.cells #[.int .i64 2, .int .u64 7, .bool true, .int .i64 1, .slice (some ⟨w.heap.size, 0, none⟩) 2 2] 41 (0, 0)) := by rw [← hw6]; exact (blk_set (blk_set bc 2 (.bool true)) 3 (.int .i64 1)).trans (by simp)
    have bI6 : w6.heap[w.heap.size]? = some (.cells #[.int .i64 2, .int .u64 5, .int .i64 1, .int .i64 3, .int .u64 9, .int .i64 4] 58 (0, 0)) := by rw [← hw6]; exact (blk_far (p := ⟨w.heap.size + 1, 3, none⟩) (by simp) _).trans ((blk_far (p := ⟨w.heap.size + 1, 2, none⟩) (by simp) _).trans bIc)
    have hI : SlAt InsetE.cells 3 w6 (some ⟨w.heap.size, 0, none⟩) [⟨2, 5, 1⟩, ⟨3, 9, 4⟩] := blk_slAt InsetE.enc (fr := (0, 0)) (e := 58) bI6 _ rfl
    have hb6 : Below w.heap.size w w6 := by rw [← hw6]; exact ((hb1.trans (hbc.mono hb1.size)).setCell (p := ⟨w.heap.size + 1, 2, none⟩) (by simp) _).setCell (p := ⟨w.heap.size + 1, 3, none⟩) (by simp) _
    clear hw6 bc bIc hR hbc B1 bI b1 l1
    have l1 := later hb6
    have B6 := boxed b6
    have l66 : Later w6 w6 := Later.refl
    refine wp_region_held_drew (S := fun w' => ∀ b [Later b w6], Later b w') (by kernel_rfl) (by intro b _; infer_instance) (fun hHeld => ?_)
    refine wpAnyH_take (i := 0) (oi := _) (v := ?_) rfl (by kernel_rfl) (by kernel_rfl) (by kernel_rfl) (fun _ _ _ h => h) (Or.inl ⟨by rfl, ?_⟩) (by assumption) ?_
    rotate_left 1
    · (intro wy hSw; (try dsimp only at hSw); go_simp; try with_reducible rfl)
    (try simp only [Act.put])
    refine wpAnyH_take (i := 4) (oi := _) (v := ?_) rfl (by kernel_rfl) (by kernel_rfl) (by kernel_rfl) (fun _ _ _ h => h) (Or.inl ⟨by rfl, ?_⟩) (by assumption) ?_
    rotate_left 1
    · (intro wy hSw; (try dsimp only at hSw); go_simp; try with_reducible rfl)
    (try simp only [Act.put])
    refine wpAnyH_ready (rs := [1, 5]) (by kernel_rfl) (by simp) ?_
    refine AllReadyH.cons (o := _) rfl (fun K9 hK9 => ?_) (AllReadyH.cons (o := _) rfl (fun K9 hK9 => ?_) AllReadyH.nil)
    · go_simp
      have hR : SlAt IDE.cells 2 (w6.drew.alloc (.cells #[.int .i64 1, .int .i64 2] 45)) (some ⟨w6.drew.heap.size, 0, none⟩) [⟨1, 2⟩] := blk_slAt IDE.enc (fr := (0, 0)) (e := 45) (heap_alloc_new _ _) [⟨1, 2⟩] rfl
      refine hK9.out _ _ (by intro b _; infer_instance) (fun hHeld => ?_)
      clear hK9 K9
      (try simp only [Act.put])
      refine wpAnyH_ready (rs := [2, 5]) (by kernel_rfl) (by simp) ?_
      refine AllReadyH.cons (o := _) rfl (fun K9 hK9 => ?_) (AllReadyH.cons (o := _) rfl (fun K9 hK9 => ?_) AllReadyH.nil)
      · go_simp
        refine (example_any (some ⟨w6.heap.size, 0, none⟩) 1 1 _).mono ?_
        rintro r w2 ⟨GA, KA, EA, ns, rfl, hns, hN, hK, hE, hb2⟩
        have l2 := later hb2
        have l22 : Later w2 w2 := Later.refl
        (try dsimp only)
        have hR := hR.below hb2
        refine hK9.out _ _ (by intro b _; infer_instance) (fun hHeld => ?_)
        clear hK9 K9
        (try simp only [Act.put])
        refine wpAnyH_ready (rs := [3, 5]) (by kernel_rfl) (by simp) ?_
        refine AllReadyH.cons (o := _) rfl (fun K9 hK9 => ?_) (AllReadyH.cons (o := _) rfl (fun K9 hK9 => ?_) AllReadyH.nil)
        · go_simp
          refine (of_ex (some ⟨w6.heap.size, 0, none⟩) 1 [⟨1, 2⟩] true (by first | exact x_has_0 | exact x_has_b) GA KA EA ns _ hns.out (hN.later _) (hK.later _) (hE.later _) (hR.later _) (by simp)).mono ?_
          rintro r w3 ⟨q, QA, Qc, hq, rfl, hoq, hiq, hb3⟩
          have l3 := later hb3
          have l33 : Later w3 w3 := Later.refl
          have hqs : ∀ u [Later w3 u], SumsAt u QA q := fun u i => (hiq.below i.below).sums ((hoq.below i.below).at_ SumE.enc).2.2
          clear hoq hiq
          (try dsimp only)
          refine hK9.out _ _ (by intro b _; infer_instance) (fun hHeld => ?_)
          clear hK9 K9
          (try simp only [Act.put])
          refine wpAnyH_ready (rs := [5]) (by kernel_rfl) (by simp) ?_
          refine AllReadyH.cons (o := _) rfl (fun K9 hK9 => ?_) AllReadyH.nil
          go_simp
          have hSl : SlAt SumE.cells 5 (w3.alloc (.cells #[.int .i64 2, .int .u64 7, .bool true, .int .i64 1, .slice (some ⟨w.heap.size, 0, none⟩) 2 2] 41)) (some ⟨w3.heap.size, 0, none⟩) [(⟨2, 7, true, 1, some ⟨w.heap.size, 0, none⟩, 2, [⟨2, 5, 1⟩, ⟨3, 9, 4⟩]⟩ : SumE)] := blk_slAt SumE.enc (fr := (0, 0)) (e := 41) (heap_alloc_new _ _) [(⟨2, 7, true, 1, some ⟨w.heap.size, 0, none⟩, 2, [⟨2, 5, 1⟩, ⟨3, 9, 4⟩]⟩ : SumE)] rfl
          refine hK9.out _ _ (by intro b _; infer_instance) (fun hHeld => ?_)
          clear hK9 K9
          (try simp only [Act.put])
          refine wpAnyH_take (i := 6) (oi := _) (v := ?_) rfl (by kernel_rfl) (by kernel_rfl) (by kernel_rfl) (fun _ _ _ h => h) (Or.inl ⟨by rfl, ?_⟩) (by assumption) ?_
          rotate_left 1
          · (intro wy hSw; (try dsimp only at hSw); go_simp; try with_reducible rfl)
          (try simp only [Act.put])
          refine wpAnyH_ready (rs := [7]) (by kernel_rfl) (by simp) ?_
          refine AllReadyH.cons (o := _) rfl (fun K9 hK9 => ?_) AllReadyH.nil
          go_simp
          refine (same_ex QA (some ⟨w3.heap.size, 0, none⟩) Qc q (⟨2, 7, true, 1, some ⟨w.heap.size, 0, none⟩, 2, [⟨2, 5, 1⟩, ⟨3, 9, 4⟩]⟩ : SumE) _ hq.out (hqs _) (hSl.later _) (hI.later _) (by simp [maxLen]) (by simp)).mono ?_
          rintro r w5 ⟨rfl, hb5⟩
          have l5 := later hb5
          (try dsimp only)
          refine hK9.out _ _ (by intro b _; infer_instance) (fun hHeld => ?_)
          clear hK9 K9
          (try simp only [Act.put])
          refine wpAnyH_ready (rs := [8]) (by kernel_rfl) (by simp) ?_
          refine AllReadyH.cons (o := _) rfl (fun K9 hK9 => ?_) AllReadyH.nil
          go_simp
          refine hK9.out _ _ (by intro b _; infer_instance) (fun hHeld => ?_)
          clear hK9 K9
          (try simp only [Act.put])
          refine wpAnyH_done (by kernel_rfl) ?_ _
          go_wp2_with fail
          go_ret
          exact ⟨rfl, below_of⟩
        · go_simp
          have hSl : SlAt SumE.cells 5 (w2.alloc (.cells #[.int .i64 2, .int .u64 7, .bool true, .int .i64 1, .slice (some ⟨w.heap.size, 0, none⟩) 2 2] 41)) (some ⟨w2.heap.size, 0, none⟩) [(⟨2, 7, true, 1, some ⟨w.heap.size, 0, none⟩, 2, [⟨2, 5, 1⟩, ⟨3, 9, 4⟩]⟩ : SumE)] := blk_slAt SumE.enc (fr := (0, 0)) (e := 41) (heap_alloc_new _ _) [(⟨2, 7, true, 1, some ⟨w.heap.size, 0, none⟩, 2, [⟨2, 5, 1⟩, ⟨3, 9, 4⟩]⟩ : SumE)] rfl
          refine hK9.out _ _ (by intro b _; infer_instance) (fun hHeld => ?_)
          clear hK9 K9
          (try simp only [Act.put])
          refine wpAnyH_take (i := 6) (oi := _) (v := ?_) rfl (by kernel_rfl) (by kernel_rfl) (by kernel_rfl) (fun _ _ _ h => h) (Or.inl ⟨by rfl, ?_⟩) (by assumption) ?_
          rotate_left 1
          · (intro wy hSw; (try dsimp only at hSw); go_simp; try with_reducible rfl)
          (try simp only [Act.put])
          refine wpAnyH_ready (rs := [3]) (by kernel_rfl) (by simp) ?_
          refine AllReadyH.cons (o := _) rfl (fun K9 hK9 => ?_) AllReadyH.nil
          go_simp
          refine (of_ex (some ⟨w6.heap.size, 0, none⟩) 1 [⟨1, 2⟩] true (by first | exact x_has_0 | exact x_has_b) GA KA EA ns _ hns.out (hN.later _) (hK.later _) (hE.later _) (hR.later _) (by simp)).mono ?_
          rintro r w3 ⟨q, QA, Qc, hq, rfl, hoq, hiq, hb3⟩
          have l3 := later hb3
          have l33 : Later w3 w3 := Later.refl
          have hqs : ∀ u [Later w3 u], SumsAt u QA q := fun u i => (hiq.below i.below).sums ((hoq.below i.below).at_ SumE.enc).2.2
          clear hoq hiq
          (try dsimp only)
          have hSl := hSl.below hb3
          refine hK9.out _ _ (by intro b _; infer_instance) (fun hHeld => ?_)
          clear hK9 K9
          (try simp only [Act.put])
          refine wpAnyH_ready (rs := [7]) (by kernel_rfl) (by simp) ?_
          refine AllReadyH.cons (o := _) rfl (fun K9 hK9 => ?_) AllReadyH.nil
          go_simp
          refine (same_ex QA (some ⟨w2.heap.size, 0, none⟩) Qc q (⟨2, 7, true, 1, some ⟨w.heap.size, 0, none⟩, 2, [⟨2, 5, 1⟩, ⟨3, 9, 4⟩]⟩ : SumE) _ hq.out (hqs _) (hSl.later _) (hI.later _) (by simp [maxLen]) (by simp)).mono ?_
          rintro r w5 ⟨rfl, hb5⟩
          have l5 := later hb5
          (try dsimp only)
          refine hK9.out _ _ (by intro b _; infer_instance) (fun hHeld => ?_)
          clear hK9 K9
          (try simp only [Act.put])
          refine wpAnyH_ready (rs := [8]) (by kernel_rfl) (by simp) ?_
          refine AllReadyH.cons (o := _) rfl (fun K9 hK9 => ?_) AllReadyH.nil
          go_simp
          refine hK9.out _ _ (by intro b _; infer_instance) (fun hHeld => ?_)
          clear hK9 K9
          (try simp only [Act.put])
          refine wpAnyH_done (by kernel_rfl) ?_ _
          go_wp2_with fail
          go_ret
          exact ⟨rfl, below_of⟩
      · obtain ⟨wq, hwq⟩ : ∃ x, (w6.alloc (.cells #[.int .i64 1, .int .i64 2] 45)).drew = x := ⟨_, rfl⟩
        have lq : ∀ b [Later b w6], Later b wq := fun b _ => hwq ▸ inferInstance
        have lqq : Later wq wq := Later.refl
        have hR : SlAt IDE.cells 2 wq (some ⟨w6.heap.size, 0, none⟩) [⟨1, 2⟩] := by rw [← hwq]; exact blk_slAt IDE.enc (fr := (0, 0)) (e := 45) (heap_alloc_new w6 _) [⟨1, 2⟩] rfl
        rw [hwq]
        clear hwq
        go_simp
        have hSl : SlAt SumE.cells 5 (wq.alloc (.cells #[.int .i64 2, .int .u64 7, .bool true, .int .i64 1, .slice (some ⟨w.heap.size, 0, none⟩) 2 2] 41)) (some ⟨wq.heap.size, 0, none⟩) [(⟨2, 7, true, 1, some ⟨w.heap.size, 0, none⟩, 2, [⟨2, 5, 1⟩, ⟨3, 9, 4⟩]⟩ : SumE)] := blk_slAt SumE.enc (fr := (0, 0)) (e := 41) (heap_alloc_new _ _) [(⟨2, 7, true, 1, some ⟨w.heap.size, 0, none⟩, 2, [⟨2, 5, 1⟩, ⟨3, 9, 4⟩]⟩ : SumE)] rfl
        refine hK9.out _ _ (by intro b _; infer_instance) (fun hHeld => ?_)
        clear hK9 K9
        (try simp only [Act.put])
        refine wpAnyH_take (i := 6) (oi := _) (v := ?_) rfl (by kernel_rfl) (by kernel_rfl) (by kernel_rfl) (fun _ _ _ h => h) (Or.inl ⟨by rfl, ?_⟩) (by assumption) ?_
        rotate_left 1
        · (intro wy hSw; (try dsimp only at hSw); go_simp; try with_reducible rfl)
        (try simp only [Act.put])
        refine wpAnyH_ready (rs := [2]) (by kernel_rfl) (by simp) ?_
        refine AllReadyH.cons (o := _) rfl (fun K9 hK9 => ?_) AllReadyH.nil
        go_simp
        refine (example_any (some ⟨w6.heap.size, 0, none⟩) 1 1 _).mono ?_
        rintro r w2 ⟨GA, KA, EA, ns, rfl, hns, hN, hK, hE, hb2⟩
        have l2 := later hb2
        have l22 : Later w2 w2 := Later.refl
        (try dsimp only)
        have hSl := hSl.below hb2
        refine hK9.out _ _ (by intro b _; infer_instance) (fun hHeld => ?_)
        clear hK9 K9
        (try simp only [Act.put])
        refine wpAnyH_ready (rs := [3]) (by kernel_rfl) (by simp) ?_
        refine AllReadyH.cons (o := _) rfl (fun K9 hK9 => ?_) AllReadyH.nil
        go_simp
        refine (of_ex (some ⟨w6.heap.size, 0, none⟩) 1 [⟨1, 2⟩] true (by first | exact x_has_0 | exact x_has_b) GA KA EA ns _ hns.out (hN.later _) (hK.later _) (hE.later _) (hR.later _) (by simp)).mono ?_
        rintro r w3 ⟨q, QA, Qc, hq, rfl, hoq, hiq, hb3⟩
        have l3 := later hb3
        have l33 : Later w3 w3 := Later.refl
        have hqs : ∀ u [Later w3 u], SumsAt u QA q := fun u i => (hiq.below i.below).sums ((hoq.below i.below).at_ SumE.enc).2.2
        clear hoq hiq
        (try dsimp only)
        have hSl := hSl.below hb3
        refine hK9.out _ _ (by intro b _; infer_instance) (fun hHeld => ?_)
        clear hK9 K9
        (try simp only [Act.put])
        refine wpAnyH_ready (rs := [7]) (by kernel_rfl) (by simp) ?_
        refine AllReadyH.cons (o := _) rfl (fun K9 hK9 => ?_) AllReadyH.nil
        go_simp
        refine (same_ex QA (some ⟨wq.heap.size, 0, none⟩) Qc q (⟨2, 7, true, 1, some ⟨w.heap.size, 0, none⟩, 2, [⟨2, 5, 1⟩, ⟨3, 9, 4⟩]⟩ : SumE) _ hq.out (hqs _) (hSl.later _) (hI.later _) (by simp [maxLen]) (by simp)).mono ?_
        rintro r w5 ⟨rfl, hb5⟩
        have l5 := later hb5
        (try dsimp only)
        refine hK9.out _ _ (by intro b _; infer_instance) (fun hHeld => ?_)
        clear hK9 K9
        (try simp only [Act.put])
        refine wpAnyH_ready (rs := [8]) (by kernel_rfl) (by simp) ?_
        refine AllReadyH.cons (o := _) rfl (fun K9 hK9 => ?_) AllReadyH.nil
        go_simp
        refine hK9.out _ _ (by intro b _; infer_instance) (fun hHeld => ?_)
        clear hK9 K9
        (try simp only [Act.put])
        refine wpAnyH_done (by kernel_rfl) ?_ _
        go_wp2_with fail
        go_ret
        exact ⟨rfl, below_of⟩
    · go_simp
      obtain ⟨wq, hwq⟩ : ∃ x, (w6.alloc (.cells #[.int .i64 2, .int .u64 7, .bool true, .int .i64 1, .slice (some ⟨w.heap.size, 0, none⟩) 2 2] 41)).drew = x := ⟨_, rfl⟩
      have lq : ∀ b [Later b w6], Later b wq := fun b _ => hwq ▸ inferInstance
      have lqq : Later wq wq := Later.refl
      have hSl : SlAt SumE.cells 5 wq (some ⟨w6.heap.size, 0, none⟩) [(⟨2, 7, true, 1, some ⟨w.heap.size, 0, none⟩, 2, [⟨2, 5, 1⟩, ⟨3, 9, 4⟩]⟩ : SumE)] := by rw [← hwq]; exact blk_slAt SumE.enc (fr := (0, 0)) (e := 41) (heap_alloc_new w6 _) [(⟨2, 7, true, 1, some ⟨w.heap.size, 0, none⟩, 2, [⟨2, 5, 1⟩, ⟨3, 9, 4⟩]⟩ : SumE)] rfl
      rw [hwq]
      clear hwq
      refine hK9.out _ _ (by intro b _; infer_instance) (fun hHeld => ?_)
      clear hK9 K9
      (try simp only [Act.put])
      refine wpAnyH_take (i := 6) (oi := _) (v := ?_) rfl (by kernel_rfl) (by kernel_rfl) (by kernel_rfl) (fun _ _ _ h => h) (Or.inl ⟨by rfl, ?_⟩) (by assumption) ?_
      rotate_left 1
      · (intro wy hSw; (try dsimp only at hSw); go_simp; try with_reducible rfl)
      (try simp only [Act.put])
      refine wpAnyH_ready (rs := [1]) (by kernel_rfl) (by simp) ?_
      refine AllReadyH.cons (o := _) rfl (fun K9 hK9 => ?_) AllReadyH.nil
      go_simp
      have hR : SlAt IDE.cells 2 (wq.alloc (.cells #[.int .i64 1, .int .i64 2] 45)) (some ⟨wq.heap.size, 0, none⟩) [⟨1, 2⟩] := blk_slAt IDE.enc (fr := (0, 0)) (e := 45) (heap_alloc_new _ _) [⟨1, 2⟩] rfl
      refine hK9.out _ _ (by intro b _; infer_instance) (fun hHeld => ?_)
      clear hK9 K9
      (try simp only [Act.put])
      refine wpAnyH_ready (rs := [2]) (by kernel_rfl) (by simp) ?_
      refine AllReadyH.cons (o := _) rfl (fun K9 hK9 => ?_) AllReadyH.nil
      go_simp
      refine (example_any (some ⟨wq.heap.size, 0, none⟩) 1 1 _).mono ?_
      rintro r w2 ⟨GA, KA, EA, ns, rfl, hns, hN, hK, hE, hb2⟩
      have l2 := later hb2
      have l22 : Later w2 w2 := Later.refl
      (try dsimp only)
      have hR := hR.below hb2
      refine hK9.out _ _ (by intro b _; infer_instance) (fun hHeld => ?_)
      clear hK9 K9
      (try simp only [Act.put])
      refine wpAnyH_ready (rs := [3]) (by kernel_rfl) (by simp) ?_
      refine AllReadyH.cons (o := _) rfl (fun K9 hK9 => ?_) AllReadyH.nil
      go_simp
      refine (of_ex (some ⟨wq.heap.size, 0, none⟩) 1 [⟨1, 2⟩] true (by first | exact x_has_0 | exact x_has_b) GA KA EA ns _ hns.out (hN.later _) (hK.later _) (hE.later _) (hR.later _) (by simp)).mono ?_
      rintro r w3 ⟨q, QA, Qc, hq, rfl, hoq, hiq, hb3⟩
      have l3 := later hb3
      have l33 : Later w3 w3 := Later.refl
      have hqs : ∀ u [Later w3 u], SumsAt u QA q := fun u i => (hiq.below i.below).sums ((hoq.below i.below).at_ SumE.enc).2.2
      clear hoq hiq
      (try dsimp only)
      refine hK9.out _ _ (by intro b _; infer_instance) (fun hHeld => ?_)
      clear hK9 K9
      (try simp only [Act.put])
      refine wpAnyH_ready (rs := [7]) (by kernel_rfl) (by simp) ?_
      refine AllReadyH.cons (o := _) rfl (fun K9 hK9 => ?_) AllReadyH.nil
      go_simp
      refine (same_ex QA (some ⟨w6.heap.size, 0, none⟩) Qc q (⟨2, 7, true, 1, some ⟨w.heap.size, 0, none⟩, 2, [⟨2, 5, 1⟩, ⟨3, 9, 4⟩]⟩ : SumE) _ hq.out (hqs _) (hSl.later _) (hI.later _) (by simp [maxLen]) (by simp)).mono ?_
      rintro r w5 ⟨rfl, hb5⟩
      have l5 := later hb5
      (try dsimp only)
      refine hK9.out _ _ (by intro b _; infer_instance) (fun hHeld => ?_)
      clear hK9 K9
      (try simp only [Act.put])
      refine wpAnyH_ready (rs := [8]) (by kernel_rfl) (by simp) ?_
      refine AllReadyH.cons (o := _) rfl (fun K9 hK9 => ?_) AllReadyH.nil
      go_simp
      refine hK9.out _ _ (by intro b _; infer_instance) (fun hHeld => ?_)
      clear hK9 K9
      (try simp only [Act.put])
      refine wpAnyH_done (by kernel_rfl) ?_ _
      go_wp2_with fail
      go_ret
      exact ⟨rfl, below_of⟩
end Go.Proofs.Ytomgdkfoinojiaa

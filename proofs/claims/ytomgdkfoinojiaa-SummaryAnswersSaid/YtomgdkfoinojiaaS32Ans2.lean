/-
  Contracts of the functions of this seat that each theorem names: what a call returns, and that it writes nothing that was there before. The conditions stand in each theorem.
-/
import Derived.Test.YtomgdkfoinojiaaS32Ans
namespace Go.Proofs.Ytomgdkfoinojiaa
open Go.RowKit
attribute [local simp] heap_drew
theorem insT2 : ElemT Try.prog 39 58 3 24 := ElemT.mk' (z := .agg #[.int .i64 0, .int .u64 0, .int .i64 0]) Try.underlying39 (by kernel_rfl) rfl
theorem SlAt.of_heap {α : Type} {f : α → List Value} {s : Nat} {w w' : World} {A : Option Addr} {l : List α} (h : SlAt f s w A l) (hk : l ≠ [] → ∀ b o, A = some ⟨b, o, none⟩ → w'.heap[b]? = w.heap[b]?) : SlAt f s w' A l := fun hl => by
  obtain ⟨b, o, e, hb, hc⟩ := h hl
  have he := hk hl b o e
  refine ⟨b, o, e, ?_, fun k x hx j u hu => ?_⟩
  · rcases Nat.lt_or_ge b w'.heap.size with h1 | h1
    · exact h1
    · rw [Array.getElem?_eq_none h1, Array.getElem?_eq_getElem hb] at he; cases he
  · have := hc k x hx j u hu
    unfold World.cell? at this ⊢
    rw [he]; exact this
set_option maxRecDepth 100000 in
set_option maxHeartbeats 4000000 in
theorem answer_any (ep : Int) (A : Option Addr) (c : Nat) (l : List SumE) (m o n lu : Int) (w : World) (H : SumsAt w A l) (hl : l.length ≤ 1000000000) (hil : ∀ x ∈ l, x.inset.length ≤ 1000000000) : Calls Try.prog 24 #[.agg #[.int .i64 ep, .slice A l.length c], .int .i64 m, .int .i64 o, .int .u64 n, .int .i64 lu] w (AnsP m o n ep lu (foundC o n l) w) := by
  have HF : ∀ u [Later w u], Calls Try.prog 18 #[.agg #[.int .i64 ep, .slice A l.length c], .int .i64 o, .int .u64 n] u (FindP 0 o n l u) := fun u i => findS_any ep A c l o n u (H.later u) hl hil 0
  obtain ⟨f, hf⟩ : ∃ f, f = foundC o n l := ⟨_, rfl⟩
  unfold FindP at HF
  rw [← hf] at HF ⊢
  clear hf
  go_enter Try.func24, Try.ntmps24
  go_upto_region 2 with fail
  refine wp_name ?_
  intro w0 hw0
  obtain ⟨B0, B1, B2, l0⟩ := box3 hw0
  clear hw0
  cases f with
  | none =>
    simp only [Option.isSome_none, Option.getD_none] at HF
    go_wp2_with (go_at_call 18; refine (HF _).mono ?_; rintro r w2 ⟨x, rfl, hx, hI, hfr, hc1, hc2, hb2⟩; have l2 := later hb2)
    have h1 := (B1 (w2.alloc (.cells #[.int .i64 x.owner, .int .u64 x.number, .bool x.rooted, .int .i64 x.distance, .slice x.A x.inset.length x.c] 41))).1
    have hW := ans_set8 (v0 := .int .i64 m) (v1 := .int .i64 o) (v2 := .int .u64 n) (v3 := .int .i64 ep) (v4 := .bool false) (v5 := .bool false) (v6 := .int .i64 0) (v7 := .slice none 0 0) h1
    have r0 := blk_cell hW 0
    have r1 := blk_cell hW 1
    have r2 := blk_cell hW 2
    have r3 := blk_cell hW 3
    have r4 := blk_cell hW 4
    have r5 := blk_cell hW 5
    have r6 := blk_cell hW 6
    have r7 := blk_cell hW 7
    simp at r0 r1 r2 r3 r4 r5 r6 r7
    refine bodyPost_ret (v := .agg #[.int .i64 m, .int .i64 o, .int .u64 n, .int .i64 ep, .bool false, .bool false, .int .i64 0, .slice none 0 0]) ?_ rfl ?_
    · simp [results, Try.results24, go_sem, r0, r1, r2, r3, r4, r5, r6, r7]
    exact ⟨none, 0, [], rfl, hide rfl, SlAt.nil, fun h => absurd rfl h, ans_below8 below_of (by omega)⟩
  | some s =>
    simp only [Option.isSome_some, Option.getD_some] at HF
    go_upto_region 4 with (go_at_call 18; refine (HF _).mono ?_; rintro r w2 ⟨x, rfl, hx, hI, hfr, hc1, hc2, hb2⟩; have l2 := later hb2)
    refine wp_name ?_
    intro w3 hw3
    obtain ⟨B12, l3⟩ := box1 hw3
    have h12 := (B12 w3).1
    have h11 := (B2 w3).1
    have h10 := (B1 w3).1
    have hz0 : w.heap.size + 1 + 1 < w0.heap.size := boxed_lt B2
    have hz2 : w0.heap.size ≤ w2.heap.size := (l2 w0).below.size
    have hne12 : w2.heap.size ≠ w.heap.size + 1 + 1 := by omega
    have hI3 := hI.below (show Below w2.heap.size w2 w3 from (l3 w2).below)
    have hbw : Below w.heap.size w w3 := below_of
    clear hw3
    have hb : w3.drew.heap[w.heap.size + 1 + 1]? = some (.cells #[.int .i64 m, .int .i64 o, .int .u64 n, .int .i64 ep, .bool false, .bool false, .int .i64 0, .slice none 0 0] 67 (0, 0)) := h11
    have hK : ∀ k, k ≠ w.heap.size + 1 + 1 → w3.drew.heap[k]? = w3.heap[k]? := fun k _ => rfl
    have hbw : Below w.heap.size w w3.drew := hbw.drew
    have c2 := blk_cell h12 2
    have c4 := blk_cell h12 4
    simp at c2 c4
    have lself : Later w3 w3 := Later.refl
    clear HF B12 B1
    refine wp_region_held_drew (S := fun w' => w'.cell? ⟨w2.heap.size, 2, none⟩ = some (.bool x.rooted) ∧ w'.cell? ⟨w2.heap.size, 4, none⟩ = some (.slice x.A x.inset.length x.c)) (by kernel_rfl) ⟨c2, c4⟩ (fun hHeld => ?_)
    clear c2 c4
    generalize hwd : w3.drew = wd at hb hK hbw hHeld ⊢
    clear hwd
    have BB := boxed hb
    have lsd : Later wd wd := Later.refl
    refine wpAnyH_take (i := 0) (oi := _) (v := ?_) rfl (by kernel_rfl) (by kernel_rfl) (by kernel_rfl) (fun _ _ _ h => h) (Or.inl ⟨by rfl, ?_⟩) (by assumption) ?_
    rotate_left 1
    · (intro wy hSw; (try dsimp only at hSw); obtain ⟨s2, s4⟩ := hSw; go_simp; try with_reducible rfl)
    (try simp only [Act.put])
    refine wpAnyH_take (i := 1) (oi := _) (v := ?_) rfl (by kernel_rfl) (by kernel_rfl) (by kernel_rfl) (fun _ _ _ h => h) (Or.inl ⟨by rfl, ?_⟩) (by assumption) ?_
    rotate_left 1
    · (intro wy hSw; (try dsimp only at hSw); obtain ⟨s2, s4⟩ := hSw; go_simp; try with_reducible rfl)
    (try simp only [Act.put])
    refine wpAnyH_take (i := 2) (oi := _) (v := ?_) rfl (by kernel_rfl) (by kernel_rfl) (by kernel_rfl) (fun _ _ _ h => h) (Or.inl ⟨by rfl, ?_⟩) (by assumption) ?_
    rotate_left 1
    · (intro wy hSw; (try dsimp only at hSw); obtain ⟨s2, s4⟩ := hSw; go_simp; try with_reducible rfl)
    (try simp only [Act.put])
    refine wpAnyH_take (i := 3) (oi := _) (v := ?_) rfl (by kernel_rfl) (by kernel_rfl) (by kernel_rfl) (fun _ _ _ h => h) (Or.inl ⟨by rfl, ?_⟩) (by assumption) ?_
    rotate_left 1
    · (intro wy hSw; (try dsimp only at hSw); obtain ⟨s2, s4⟩ := hSw; go_simp; try with_reducible rfl)
    (try simp only [Act.put])
    refine wpAnyH_take (i := 4) (oi := _) (v := ?_) rfl (by kernel_rfl) (by kernel_rfl) (by kernel_rfl) (fun _ _ _ h => h) (Or.inl ⟨by rfl, ?_⟩) (by assumption) ?_
    rotate_left 1
    · (intro wy hSw; (try dsimp only at hSw); obtain ⟨s2, s4⟩ := hSw; go_simp; try with_reducible rfl)
    (try simp only [Act.put])
    refine wpAnyH_take (i := 5) (oi := _) (v := ?_) rfl (by kernel_rfl) (by kernel_rfl) (by kernel_rfl) (fun _ _ _ h => h) (Or.inl ⟨by rfl, ?_⟩) (by assumption) ?_
    rotate_left 1
    · (intro wy hSw; (try dsimp only at hSw); obtain ⟨s2, s4⟩ := hSw; go_simp; try with_reducible rfl)
    (try simp only [Act.put])
    refine wpAnyH_ready (rs := [6]) (by kernel_rfl) (by simp) ?_
    refine AllReadyH.cons (o := _) rfl (fun K9 hK9 => ?_) AllReadyH.nil
    go_simp
    have hbn := blk_set hb 4 (.bool true)
    have hKn : ∀ k, k ≠ w.heap.size + 1 + 1 → (wd.setCell ⟨w.heap.size + 1 + 1, 4, none⟩ (.bool true)).heap[k]? = w3.heap[k]? := fun k hk => (blk_far (p := ⟨w.heap.size + 1 + 1, 4, none⟩) hk (.bool true)).trans (hK k hk)
    have hbwn : Below w.heap.size w (wd.setCell ⟨w.heap.size + 1 + 1, 4, none⟩ (.bool true)) := hbw.setCell (p := ⟨w.heap.size + 1 + 1, 4, none⟩) (by show w.heap.size ≤ w.heap.size + 1 + 1; omega) _
    have c2 := blk_cell ((hKn _ hne12).trans h12) 2
    have c4 := blk_cell ((hKn _ hne12).trans h12) 4
    simp at c2 c4
    simp at hbn
    refine hK9.out _ _ (by exact ⟨c2, c4⟩) (fun hHeld => ?_)
    clear hK9 K9
    (try simp only [Act.put])
    obtain ⟨w4, hW2⟩ : ∃ wnew, wd.setCell ⟨w.heap.size + 1 + 1, 4, none⟩ (.bool true) = wnew := ⟨_, rfl⟩
    rw [hW2] at hbn hKn hHeld hbwn ⊢
    clear hW2 hb hK hbw c2 c4
    have hb := hbn
    have hK := hKn
    have hbw := hbwn
    clear hbn hKn hbwn
    have BB := boxed hb
    have lself : Later w4 w4 := Later.refl
    refine wpAnyH_take (i := 7) (oi := _) (v := ?_) rfl (by kernel_rfl) (by kernel_rfl) (by kernel_rfl) (fun _ _ _ h => h) (Or.inl ⟨by rfl, ?_⟩) (by assumption) ?_
    rotate_left 1
    · (intro wy hSw; (try dsimp only at hSw); obtain ⟨s2, s4⟩ := hSw; go_simp; try with_reducible rfl)
    (try simp only [Act.put])
    refine wpAnyH_ready (rs := [8]) (by kernel_rfl) (by simp) ?_
    refine AllReadyH.cons (o := _) rfl (fun K9 hK9 => ?_) AllReadyH.nil
    go_simp
    have hbn := blk_set hb 5 (.bool x.rooted)
    have hKn : ∀ k, k ≠ w.heap.size + 1 + 1 → (w4.setCell ⟨w.heap.size + 1 + 1, 5, none⟩ (.bool x.rooted)).heap[k]? = w3.heap[k]? := fun k hk => (blk_far (p := ⟨w.heap.size + 1 + 1, 5, none⟩) hk (.bool x.rooted)).trans (hK k hk)
    have hbwn : Below w.heap.size w (w4.setCell ⟨w.heap.size + 1 + 1, 5, none⟩ (.bool x.rooted)) := hbw.setCell (p := ⟨w.heap.size + 1 + 1, 5, none⟩) (by show w.heap.size ≤ w.heap.size + 1 + 1; omega) _
    have c2 := blk_cell ((hKn _ hne12).trans h12) 2
    have c4 := blk_cell ((hKn _ hne12).trans h12) 4
    simp at c2 c4
    simp at hbn
    refine hK9.out _ _ (by exact ⟨c2, c4⟩) (fun hHeld => ?_)
    clear hK9 K9
    (try simp only [Act.put])
    obtain ⟨w5, hW2⟩ : ∃ wnew, w4.setCell ⟨w.heap.size + 1 + 1, 5, none⟩ (.bool x.rooted) = wnew := ⟨_, rfl⟩
    rw [hW2] at hbn hKn hHeld hbwn ⊢
    clear hW2 hb hK hbw c2 c4
    have hb := hbn
    have hK := hKn
    have hbw := hbwn
    clear hbn hKn hbwn
    have BB := boxed hb
    have lself : Later w5 w5 := Later.refl
    refine wpAnyH_take (i := 9) (oi := _) (v := ?_) rfl (by kernel_rfl) (by kernel_rfl) (by kernel_rfl) (fun _ _ _ h => h) (Or.inl ⟨by rfl, ?_⟩) (by assumption) ?_
    rotate_left 1
    · (intro wy hSw; (try dsimp only at hSw); obtain ⟨s2, s4⟩ := hSw; go_simp; try with_reducible rfl)
    (try simp only [Act.put])
    refine wpAnyH_ready (rs := [10]) (by kernel_rfl) (by simp) ?_
    refine AllReadyH.cons (o := _) rfl (fun K9 hK9 => ?_) AllReadyH.nil
    go_simp
    have hbn := blk_set hb 6 (.int .i64 lu)
    have hKn : ∀ k, k ≠ w.heap.size + 1 + 1 → (w5.setCell ⟨w.heap.size + 1 + 1, 6, none⟩ (.int .i64 lu)).heap[k]? = w3.heap[k]? := fun k hk => (blk_far (p := ⟨w.heap.size + 1 + 1, 6, none⟩) hk (.int .i64 lu)).trans (hK k hk)
    have hbwn : Below w.heap.size w (w5.setCell ⟨w.heap.size + 1 + 1, 6, none⟩ (.int .i64 lu)) := hbw.setCell (p := ⟨w.heap.size + 1 + 1, 6, none⟩) (by show w.heap.size ≤ w.heap.size + 1 + 1; omega) _
    have c2 := blk_cell ((hKn _ hne12).trans h12) 2
    have c4 := blk_cell ((hKn _ hne12).trans h12) 4
    simp at c2 c4
    simp at hbn
    refine hK9.out _ _ (by exact ⟨c2, c4⟩) (fun hHeld => ?_)
    clear hK9 K9
    (try simp only [Act.put])
    obtain ⟨w6, hW2⟩ : ∃ wnew, w5.setCell ⟨w.heap.size + 1 + 1, 6, none⟩ (.int .i64 lu) = wnew := ⟨_, rfl⟩
    rw [hW2] at hbn hKn hHeld hbwn ⊢
    clear hW2 hb hK hbw c2 c4
    have hb := hbn
    have hK := hKn
    have hbw := hbwn
    clear hbn hKn hbwn
    have BB := boxed hb
    have lself : Later w6 w6 := Later.refl
    refine wpAnyH_take (i := 11) (oi := _) (v := ?_) rfl (by kernel_rfl) (by kernel_rfl) (by kernel_rfl) (fun _ _ _ h => h) (Or.inl ⟨by rfl, ?_⟩) (by assumption) ?_
    rotate_left 1
    · (intro wy hSw; (try dsimp only at hSw); obtain ⟨s2, s4⟩ := hSw; go_simp; try with_reducible rfl)
    (try simp only [Act.put])
    refine wpAnyH_ready (rs := [12]) (by kernel_rfl) (by simp) ?_
    refine AllReadyH.cons (o := _) rfl (fun K9 hK9 => ?_) AllReadyH.nil
    go_simp
    have hbn := blk_set hb 7 (.slice x.A x.inset.length x.c)
    have hKn : ∀ k, k ≠ w.heap.size + 1 + 1 → (w6.setCell ⟨w.heap.size + 1 + 1, 7, none⟩ (.slice x.A x.inset.length x.c)).heap[k]? = w3.heap[k]? := fun k hk => (blk_far (p := ⟨w.heap.size + 1 + 1, 7, none⟩) hk (.slice x.A x.inset.length x.c)).trans (hK k hk)
    have hbwn : Below w.heap.size w (w6.setCell ⟨w.heap.size + 1 + 1, 7, none⟩ (.slice x.A x.inset.length x.c)) := hbw.setCell (p := ⟨w.heap.size + 1 + 1, 7, none⟩) (by show w.heap.size ≤ w.heap.size + 1 + 1; omega) _
    have c2 := blk_cell ((hKn _ hne12).trans h12) 2
    have c4 := blk_cell ((hKn _ hne12).trans h12) 4
    simp at c2 c4
    simp at hbn
    refine hK9.out _ _ (by exact ⟨c2, c4⟩) (fun hHeld => ?_)
    clear hK9 K9
    (try simp only [Act.put])
    obtain ⟨w7, hW2⟩ : ∃ wnew, w6.setCell ⟨w.heap.size + 1 + 1, 7, none⟩ (.slice x.A x.inset.length x.c) = wnew := ⟨_, rfl⟩
    rw [hW2] at hbn hKn hHeld hbwn ⊢
    clear hW2 hb hK hbw c2 c4
    have hb := hbn
    have hK := hKn
    have hbw := hbwn
    clear hbn hKn hbwn
    have BB := boxed hb
    have lself : Later w7 w7 := Later.refl
    refine wpAnyH_done (by kernel_rfl) ?_ _
    have h107 := (hK _ (show w.heap.size + 1 ≠ w.heap.size + 1 + 1 by omega)).trans h10
    have B10 := boxed h107
    go_wp2_with fail
    have hW := ans_set8 (v0 := .int .i64 m) (v1 := .int .i64 o) (v2 := .int .u64 n) (v3 := .int .i64 ep) (v4 := .bool true) (v5 := .bool x.rooted) (v6 := .int .i64 lu) (v7 := .slice x.A x.inset.length x.c) h107
    have r0 := blk_cell hW 0
    have r1 := blk_cell hW 1
    have r2 := blk_cell hW 2
    have r3 := blk_cell hW 3
    have r4 := blk_cell hW 4
    have r5 := blk_cell hW 5
    have r6 := blk_cell hW 6
    have r7 := blk_cell hW 7
    simp at r0 r1 r2 r3 r4 r5 r6 r7
    refine bodyPost_ret (v := .agg #[.int .i64 m, .int .i64 o, .int .u64 n, .int .i64 ep, .bool true, .bool x.rooted, .int .i64 lu, .slice x.A x.inset.length x.c]) ?_ rfl ?_
    · simp [results, Try.results24, go_sem, r0, r1, r2, r3, r4, r5, r6, r7]
    have hxr : x.rooted = s.rooted := congrArg SumC.rooted hx.out
    have hxi : x.inset = s.inset := congrArg SumC.inset hx.out
    refine ⟨x.A, x.c, x.inset, by rw [hxr]; rfl, hide hxi, slAt_set8 (hI3.of_heap fun hl b o' e => hK b ?_) ?_, fun hl b o' e => by have := hfr hl b o' e; omega, ans_below8 hbw (by omega)⟩
    · have := hfr hl b o' e
      omega
    · intro hl b o' e
      have := hfr hl b o' e
      omega
end Go.Proofs.Ytomgdkfoinojiaa

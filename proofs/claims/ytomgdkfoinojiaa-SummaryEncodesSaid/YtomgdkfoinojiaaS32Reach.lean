/-
  Contracts of the functions of this seat that each theorem names: what a call returns, and that it writes nothing that was there before. The conditions stand in each theorem.
-/
import Derived.Test.YtomgdkfoinojiaaGReach
import Derived.Test.YtomgdkfoinojiaaGrpU
set_option linter.unusedSimpArgs false
set_option linter.unusedVariables false
namespace Go.Proofs.Ytomgdkfoinojiaa
open Go.RowKit
attribute [local go_sem ↓] run_eql_id run_neq_id
attribute [local go_sem] Oper.semAt_some
attribute [local simp] heap_drew
/-- The map of maps at gm: each entry holds what its identity reaches. -/
def RInv (L : List NodeC) (gm : Nat) (w : World) : Prop := ∃ M : IDE → Option Nat, MapFn IDE.vv (fun g => Value.map (some g)) w gm M ∧ ∀ id g, M id = some g → g ≠ gm ∧ ∃ q, ReachL L [id] q ∧ MapFn IDE.vv Value.bool w g (memM q)
theorem zeroMapB (w : World) : (zeroValue 90).run Try.prog w = .ok (.map none) w := by kernel_rfl
theorem RInv.keep {L : List NodeC} {gm : Nat} {w w' : World} (h : RInv L gm w) (hk : ∀ (b : Nat) (es : Array MapEntry) (ck : Nat), w.heap[b]? = some (Obj.map es ck) → w'.heap[b]? = some (Obj.map es ck)) : RInv L gm w' := by
  have hf : ∀ {κ ν : Type} {fk : κ → Value} {fv : ν → Value} {g : Nat} {M : κ → Option ν}, MapFn fk fv w g M → MapFn fk fv w' g M := fun ⟨es, c, h1, h2⟩ => ⟨es, c, hk _ _ _ h1, h2⟩
  obtain ⟨M, h1, h2⟩ := h
  exact ⟨M, hf h1, fun id g hM => ⟨(h2 id g hM).1, by obtain ⟨q, a, b⟩ := (h2 id g hM).2; exact ⟨q, a, hf b⟩⟩⟩
theorem RInv.below {L : List NodeC} {gm : Nat} {w w' : World} (h : RInv L gm w) (hb : Below w.heap.size w w') : RInv L gm w' := h.keep fun b es ck hx => blk_below hx hb
theorem RInv.lt {L : List NodeC} {gm : Nat} {w : World} (h : RInv L gm w) : gm < w.heap.size := by
  obtain ⟨M, h1, _⟩ := h
  exact h1.lt
def ReachPost1 (L : List NodeC) (gm : Nat) (id : IDE) (w : World) (r : Ending) (w' : World) : Prop := ∃ g q, r = .returned (.map (some g)) ∧ ReachL L [id] q ∧ MapFn IDE.vv Value.bool w' g (memM q) ∧ RInv L gm w' ∧ w.grownBy w' (some gm)
theorem grown_putAt {w w6 : World} {gm : Nat} {o : Obj} (hb : Below w.heap.size w w6) (hg : gm < w6.heap.size) : w.grownBy (putAt w6 gm o) (some gm) :=
  ⟨hb.os, hb.tape, hb.output, by rw [putAt_size]; exact hb.size, fun k hk hne => by rw [putAt_heap (fun e => hne (by rw [e]))]; exact hb.block k hk⟩
set_option maxRecDepth 100000 in
set_option maxHeartbeats 2000000 in
theorem reach1_any (A : Option Addr) (c : Nat) (l : List NodeE) (gm g12 g5 : Nat) (id : IDE) (w : World) (H : NodesAt w A l) (hl : l.length ≤ 10000) (hf : ∀ n ∈ l, n.fields.length ≤ 10000)
    (h5 : w.heap[g5]? = some (.cells #[.slice A l.length c] 24 (0, 0))) (h12 : w.heap[g12]? = some (.cells #[.map (some gm)] 114 (0, 0))) (HI : RInv (conL l) gm w) :
    Calls Try.prog 64 #[id.v, .pointer (some ⟨g12, 0, none⟩), .pointer (some ⟨g5, 0, none⟩)] w (ReachPost1 (conL l) gm id w) := by
  have hgm := HI.lt
  obtain ⟨i1, i2⟩ := id
  dsimp only [IDE.v]
  have HL := H.later
  have X5 := boxed h5
  have X12 := boxed h12
  have HI0 := HI
  obtain ⟨M, hM, hMs⟩ := HI
  have hlk : ∀ (u : World) [Later w u], (Instr.lookup 114 (.map (some gm)) (.agg #[.int .i64 i1, .int .i64 i2]) true).run Try.prog u = .ok (.tuple #[(M ⟨i1, i2⟩).elim (.map none) (fun g => Value.map (some g)), .bool (M ⟨i1, i2⟩).isSome]) u :=
    fun u i => run_look_ok keyI Try.underlying114 zeroMapB (hM.later u) ⟨i1, i2⟩
  have hlk2 : ∀ (u : World) [Later w u], (Instr.lookup 114 (.map (some gm)) (.agg #[.int .i64 i1, .int .i64 i2]) false).run Try.prog u = .ok ((M ⟨i1, i2⟩).elim (.map none) (fun g => Value.map (some g))) u :=
    fun u i => run_look keyI Try.underlying114 zeroMapB (hM.later u) ⟨i1, i2⟩
  go_enter Try.func64, Try.ntmps64
  go_upto_region 1 with fail
  refine wp_name ?_
  intro w1 hw1
  obtain ⟨B1, l1⟩ := box1 hw1
  clear hw1
  have l11 : Later w1 w1 := Later.refl
  have lw1 : Later w w1 := l1 w
  cases hMi : M ⟨i1, i2⟩ with
  | some g =>
    simp only [hMi, Option.elim_some, Option.isSome_some] at hlk hlk2
    obtain ⟨hgn, q, hq, hMq⟩ := hMs _ _ hMi
    have HM := hide (show MapFn IDE.vv Value.bool w g (memM q) from hMq)
    clear hMi hM hMs hMq
    go_wp2_with fail
    go_ret
    have hb : Below w.heap.size w w1 := lw1.below
    exact ⟨g, q, rfl, hq, HM.out.below hb, HI0.below hb, grown_below hb _⟩
  | none =>
    simp only [hMi, Option.elim_none, Option.isSome_none] at hlk
    have HRe : ∀ u [Later w u], SlAt IDE.cells 2 u (some ⟨w1.heap.size, 0, none⟩) [⟨i1, i2⟩] → Calls Try.prog 20 #[.agg #[.slice A l.length c], .slice (some ⟨w1.heap.size, 0, none⟩) 1 1] u (ReachPost (conL l) [⟨i1, i2⟩] u) := fun u i hs => reach_any A c l (some ⟨w1.heap.size, 0, none⟩) 1 [⟨i1, i2⟩] u (HL u) hs hl hf (by simp)
    have hll : (conL l).length = l.length := by unfold conL; rw [List.length_map]
    have HMs := hide hMs
    have HMi := hide hMi
    clear hMi hlk2 hMs
    go_upto_region 3 with fail
    have HC : ∀ u : World, (∀ a v, w1.cell? a = some v → u.cell? a = some v) → u.cell? ⟨g12, 0, none⟩ = some (.map (some gm)) ∧ u.cell? ⟨g5, 0, none⟩ = some (.slice A l.length c) ∧ u.cell? ⟨w.heap.size, 0, none⟩ = some (.int .i64 i1) ∧ u.cell? ⟨w.heap.size, 1, none⟩ = some (.int .i64 i2) := fun u hu =>
      ⟨hu _ _ (by have := ((X12 w1).2 0).1; simpa using this), hu _ _ (by have := ((X5 w1).2 0).1; simpa using this), hu _ _ (by have := ((B1 w1).2 0).1; simpa using this), hu _ _ (by have := ((B1 w1).2 1).1; simpa using this)⟩
    refine wp_region_held_drew (S := fun w' => ∀ a v, w1.cell? a = some v → w'.cell? a = some v) (by kernel_rfl) (fun a v h => h) (fun hHeld => ?_)
    refine wpAnyH_take (i := 0) (oi := _) (v := ?_) rfl (by kernel_rfl) (by kernel_rfl) (by kernel_rfl) (fun _ _ _ h => h) (Or.inl ⟨by rfl, ?_⟩) (by assumption) ?_
    rotate_left 1
    · (intro wy hSw; (try dsimp only at hSw); obtain ⟨s1, s2, s3, s4⟩ := HC wy hSw; go_simp; try with_reducible rfl)
    (try simp only [Act.put])
    refine wpAnyH_take (i := 1) (oi := _) (v := ?_) rfl (by kernel_rfl) (by kernel_rfl) (by kernel_rfl) (fun _ _ _ h => h) (Or.inl ⟨by rfl, ?_⟩) (by assumption) ?_
    rotate_left 1
    · (intro wy hSw; (try dsimp only at hSw); obtain ⟨s1, s2, s3, s4⟩ := HC wy hSw; go_simp; try with_reducible rfl)
    (try simp only [Act.put])
    refine wpAnyH_take (i := 2) (oi := _) (v := ?_) rfl (by kernel_rfl) (by kernel_rfl) (by kernel_rfl) (fun _ _ _ h => h) (Or.inl ⟨by rfl, ?_⟩) (by assumption) ?_
    rotate_left 1
    · (intro wy hSw; (try dsimp only at hSw); obtain ⟨s1, s2, s3, s4⟩ := HC wy hSw; go_simp; try with_reducible rfl)
    (try simp only [Act.put])
    refine wpAnyH_take (i := 3) (oi := _) (v := ?_) rfl (by kernel_rfl) (by kernel_rfl) (by kernel_rfl) (fun _ _ _ h => h) (Or.inl ⟨by rfl, ?_⟩) (by assumption) ?_
    rotate_left 1
    · (intro wy hSw; (try dsimp only at hSw); obtain ⟨s1, s2, s3, s4⟩ := HC wy hSw; go_simp; try with_reducible rfl)
    (try simp only [Act.put])
    refine wpAnyH_ready (rs := [4]) (by kernel_rfl) (by simp) ?_
    refine AllReadyH.cons (o := _) rfl (fun K9 hK9 => ?_) AllReadyH.nil
    go_simp
    refine hK9.out _ _ (by exact fun a v h => Later.cell h _) (fun hHeld => ?_)
    clear hK9 K9
    (try simp only [Act.put])
    refine wpAnyH_ready (rs := [5]) (by kernel_rfl) (by simp) ?_
    refine AllReadyH.cons (o := _) rfl (fun K9 hK9 => ?_) AllReadyH.nil
    go_simp
    refine (HRe _ ?hsl).mono ?_
    case hsl => exact blk_slAt IDE.enc (fr := (0, 0)) (e := 45) (heap_alloc_new _ _) [⟨i1, i2⟩] rfl
    rintro r w2 ⟨q, QA, Qc, hq, rfl, hoq, hb2⟩
    have l2 := later hb2
    have hql := reachL_len hq
    have HQ : ∀ u [Later w2 u], SlAt IDE.cells 2 u QA q := fun u i => ((hoq.below i.below).at_ IDE.enc).2.2
    have l22 : Later w2 w2 := Later.refl
    (try dsimp only)
    refine hK9.out _ _ (by exact fun a v h => Later.cell h _) (fun hHeld => ?_)
    clear hK9 K9
    (try simp only [Act.put])
    refine wpAnyH_ready (rs := [6]) (by kernel_rfl) (by simp) ?_
    refine AllReadyH.cons (o := _) rfl (fun K9 hK9 => ?_) AllReadyH.nil
    go_simp
    refine (set_any QA Qc q _ (HQ _) (by omega)).mono ?_
    rintro r w3 ⟨g, rfl, hg, hMg, hb3⟩
    have l3 := later hb3
    have l33 : Later w3 w3 := Later.refl
    have lw3 : Later w w3 := inferInstance
    have hgw : w.heap.size ≤ g := Nat.le_trans (show Later w _ from inferInstance : Later w w2).below.size (by simpa [heap_drew] using hg)
    obtain ⟨U, hU1, hU2, hU3, hU4⟩ := run_store (ν := Nat) (fv := fun g => Value.map (some g)) keyI Try.underlying114 hM
    have hF := hU2 w3 ⟨i1, i2⟩ g
    have hU1' := fun (u : World) [Later w u] => hU1 u ⟨i1, i2⟩ g
    have hU3' := fun (u : World) [Later w u] => hU3 u ⟨i1, i2⟩ g
    dsimp only [IDE.vv] at hU1'
    (try dsimp only)
    refine hK9.out _ _ (by exact fun a v h => Later.cell h _) (fun hHeld => ?_)
    clear hK9 K9
    (try simp only [Act.put])
    refine wpAnyH_ready (rs := [7]) (by kernel_rfl) (by simp) ?_
    refine AllReadyH.cons (o := _) rfl (fun K9 hK9 => ?_) AllReadyH.nil
    go_simp
    refine hK9.out _ _ (by exact fun a v h => (hU3' w3 a).trans (Later.cell h _)) (fun hHeld => ?_)
    clear hK9 K9
    (try simp only [Act.put])
    refine wpAnyH_done (by kernel_rfl) ?_ _
    have hb3w : Below w.heap.size w w3 := lw3.below
    have hgm3 : gm < w3.heap.size := Nat.lt_of_lt_of_le hgm hb3w.size
    have hgg : g ≠ gm := by omega
    obtain ⟨w4, hw4⟩ : ∃ w4, putAt w3 gm (U ⟨i1, i2⟩ g) = w4 := ⟨_, rfl⟩
    have hgr : w.grownBy w4 (some gm) := by rw [← hw4]; exact grown_putAt hb3w hgm3
    have hFg : MapFn IDE.vv Value.bool w4 g (memM q) := by rw [← hw4]; exact hMg.of_heap (putAt_heap hgg)
    have hRI : RInv (conL l) gm w4 := by
      refine ⟨mupd M ⟨i1, i2⟩ g, by rw [← hw4]; exact hF, fun id' g' h => ?_⟩
      unfold mupd at h
      split at h
      · rename_i he
        injection h with h
        rw [← h, he]
        exact ⟨hgg, q, hq, hFg⟩
      · obtain ⟨a1, q', a2, a3⟩ := HMs.out _ _ h
        exact ⟨a1, q', a2, by rw [← hw4]; exact (a3.below hb3w).of_heap (putAt_heap a1)⟩
    obtain ⟨s1, s2, s3, s4⟩ := HC w4 (fun a v h => by rw [← hw4]; exact (hU3' w3 a).trans (Later.cell h _))
    have hl4 : (Instr.lookup 114 (.map (some gm)) (.agg #[.int .i64 i1, .int .i64 i2]) false).run Try.prog w4 = .ok (.map (some g)) w4 := by
      have := run_look keyI Try.underlying114 zeroMapB (show MapFn IDE.vv (fun g => Value.map (some g)) w4 gm (mupd M ⟨i1, i2⟩ g) by rw [← hw4]; exact hF) ⟨i1, i2⟩
      simp only [mupd, if_true, Option.elim_some] at this
      exact this
    rw [hw4]
    have HR4 := hide hRI
    have HF4 := hide hFg
    clear hw4 hF hU1 hU1' hU2 hU3 hU3' hU4 hHeld HC HMs HMi hMg hM hlk HRe hoq HQ hRI hFg
    go_wp2_with fail
    go_ret
    exact ⟨g, q, rfl, hq, HF4.out, HR4.out, hgr⟩
end Go.Proofs.Ytomgdkfoinojiaa

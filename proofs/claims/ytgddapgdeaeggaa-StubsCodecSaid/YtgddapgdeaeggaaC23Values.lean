/-
  Contracts of the functions of this seat that each theorem names: what a call returns, and that it writes nothing that was there before. The conditions stand in each theorem.
-/
import Derived.Test.YtgddapgdeaeggaaC23Walk4
import Derived.Test.YtgddapgdeaeggaaRangeLib
namespace Go.Proofs.Ytgddapgdeaeggaa
open Go.RowKit
attribute [local go_sem] Oper.semAt_some
theorem pick_snoc {α : Type} {l : List α} {idxs : List Nat} {i : Nat} {x : α} (hx : l[i]? = some x) : pickL l (idxs ++ [i]) = pickL l idxs ++ [x] := by
  unfold pickL; rw [List.filterMap_append]; simp [hx]
theorem pick_len {α : Type} {l : List α} : ∀ {idxs : List Nat}, (pickL l idxs).length ≤ idxs.length := fun {idxs} => by
  unfold pickL; exact List.length_filterMap_le _ _
set_option maxRecDepth 100000 in
set_option maxHeartbeats 2000000 in
theorem values1_in (n : Nat) (hn : 1 ≤ n) (l Bm g : Nat) (xs : List StubE) (J Jx : List StubE → World → Prop)
    (hY : ∀ pre x W, J pre W → pre.length < xs.length → YieldAt Fence.wide (n - 1) Try.prog l #[x.v] W fun e W' =>
      (e = .returned (.bool true) ∧ J (pre ++ [x]) W' ∧ KeepsWalks W W') ∨ (e = .returned (.bool false) ∧ Jx (pre ++ [x]) W'))
    (W : World) (hJ : AbidesFrom W.heap.size J) (hm : W.cell? ⟨Bm, 0, none⟩ = some (.map (some g))) (hmap : MapL KeyE.vv StubE.vv keyE W g xs) (h0 : J [] W) :
    CallsIn Fence.wide n Try.prog 61 #[.func (.yield l) #[] #[], .pointer (some ⟨Bm, 0, none⟩)] W fun e W' => (∃ v, e = .returned v) ∧
      ((∃ ys, ys.Perm xs ∧ J ys W') ∨ (∃ pre, True ∧ Jx pre W')) := by
  refine callsIn_of_wp Try.func61 rfl trivial ?_ rfl
  simp only [Try.ntmps61, List.size_toArray, List.length_cons, List.length_nil, Nat.reduceAdd, Nat.reduceSub, Array.replicate_succ, Array.replicate_zero, List.push_toArray, List.append_toArray, List.nil_append, List.cons_append]
  gi_wp2_with (first
    | (gi_at_range; refine wpListIn_rangeL rfl _ _ rfl Try.underlying61 (by rfl) hmap ?_; intro w0 hrg0 hb0 hz0 hg0)
    | gi_in)
  go_frame
  gi_loopw [4] (fun _ wr => ∃ idxs, RangeL KeyE.vv StubE.vv keyE wr g W.heap.size xs idxs ∧ J (pickL xs idxs) wr) (fun _ wr => xs.length - (wr.iterSeen W.heap.size).size)
  case atStart => exact ⟨[], hrg0, hJ [] W w0 none h0 hg0 (fun r e => by cases e)⟩
  case round =>
    obtain ⟨idxs, hrg, hJs⟩ := hrel
    clear hrg0 hb0 hz0 hg0
    gi_wp2_with (first
      | (gi_at_next; refine wpListIn_nextL rfl _ rfl (by rfl) hrg ?_ ?_)
      | gi_in)
    · intro hall
      have Hall := hide hall
      clear hall
      gi_wp2
      go_end0
      exact ⟨⟨_, rfl⟩, .inl ⟨_, pick_all hrg.facts.1 hrg.facts.2 Hall.out, hJs⟩⟩
    · intro i x w2 hx hi hrg2 hen hgr hsz hb2
      have hJ2 : J (pickL xs idxs) w2 := hJ _ wr w2 (some W.heap.size) hJs hgr (fun r e => by cases e; exact ⟨Nat.le_refl _, hrg.iter⟩)
      have hJ3 : J (pickL xs idxs) (w2.alloc (.cells x.arr 37)) := hJ _ w2 _ none hJ2 (World.grownBy_alloc _ _ _) (fun r e => by cases e)
      have hlen : (pickL xs idxs).length < xs.length := by
        have h1 := pick_len (l := xs) (idxs := idxs)
        have h2 := hrg2.len
        rw [List.length_append, List.length_singleton] at h2
        omega
      obtain ⟨fn, tmps, assign, body, hy, hR⟩ := hY (pickL xs idxs) x _ hJ3 hlen
      have hen' := hen.out
      have hx' := hide hx
      have hrg3 := hrg2.later (w2.alloc (.cells x.arr 37))
      clear hsz hx hgr
      gi_wp2
      refine hR.mono ?_
      rintro e W3 (⟨rfl, hJ4, hk3⟩ | ⟨rfl, hJx3⟩)
      · gi_wp2
        have hrg4 := hrg3.of_walks hk3
        go_roundw
        case rel => exact ⟨idxs ++ [i], hrg4, by rw [pick_snoc hx'.out]; exact hJ4⟩
        case measure =>
          have := hrg4.len
          rw [hrg4.seen, hrg.seen]
          rw [List.length_append, List.length_singleton] at this ⊢
          omega
      · gi_wp2
        refine bodyPost_ret (results_none rfl _ _ _) rfl ?_
        exact ⟨⟨_, rfl⟩, .inr ⟨_, trivial, hJx3⟩⟩
theorem values_stops (n : Nat) (hn : 1 ≤ n) (Bm g : Nat) (xs : List StubE) (w : World) (hBm : Bm < w.heap.size) (hm : w.cell? ⟨Bm, 0, none⟩ = some (.map (some g))) (hmap : MapL KeyE.vv StubE.vv keyE w g xs) :
    SeqStopsK Fence.wide n Try.prog 61 #[.pointer (some ⟨Bm, 0, none⟩)] (fun x : StubE => #[x.v]) KeepsWalks (fun ys => ys.Perm xs) (fun _ => True) xs.length w := fun l J Jx W hW hJ _ hY h0 =>
  values1_in n hn l Bm g xs J Jx hY W hJ ((hW.cell (p := ⟨Bm, 0, none⟩) hBm).trans hm) (hmap.below hW) h0
end Go.Proofs.Ytgddapgdeaeggaa

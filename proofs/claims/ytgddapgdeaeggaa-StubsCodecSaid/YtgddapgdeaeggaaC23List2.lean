/-
  Contracts of the functions of this seat that each theorem names: what a call returns, and that it writes nothing that was there before. The conditions stand in each theorem.
-/
import Derived.Test.YtgddapgdeaeggaaC23List
namespace Go.Proofs.Ytgddapgdeaeggaa
open Go.RowKit
attribute [local go_sem] Instr.makeFunc
def ltS (x y : StubE) : Prop := x.owner < y.owner ∨ (x.owner = y.owner ∧ x.number < y.number)
instance (x y : StubE) : Decidable (ltS x y) := by unfold ltS; infer_instance
abbrev SortedS (l : List StubE) : Prop := l.Pairwise ltS
theorem strictS {l q : List StubE} (hn : (l.map keyE).Nodup) (hp : q.Perm l) (hs : q.Pairwise fun x y => Go.Proofs.ltOf cmpS y x = false) : SortedS q := by
  have h1 : (q.map keyE).Nodup := (hp.map keyE).symm.nodup hn
  have h2 : q.Pairwise fun x y => keyE x ≠ keyE y := List.pairwise_map.1 h1
  refine (hs.and h2).imp fun {x y} ⟨a, b⟩ => ?_
  rw [cmpS_lt] at a
  have a' : ¬ (y.owner < x.owner ∨ (y.owner = x.owner ∧ y.number < x.number)) := by simpa using a
  have b' : ¬ (x.owner = y.owner ∧ x.number = y.number) := fun h => b (by rw [keyE, keyE, h.1, h.2])
  unfold ltS; omega
/-- What List gives: a slice of its own, the entries in the order of their keys. -/
def ListPost (w : World) (xs : List StubE) (r : Ending) (w' : World) : Prop := ∃ q A c, Hid (q.Perm xs ∧ SortedS q) ∧ r = .returned (.slice A q.length c) ∧ Own StubE.cells 12 37 w.heap.size w' (.slice A q.length c) q ∧ Below w.heap.size w w'
set_option maxHeartbeats 1000000 in
theorem collect_any (Bm g : Nat) (xs : List StubE) (w : World) (hBm : Bm < w.heap.size) (hm : w.cell? ⟨Bm, 0, none⟩ = some (.map (some g))) (hmap : MapL KeyE.vv StubE.vv keyE w g xs) (hl : xs.length ≤ 1000000) :
    Calls Try.prog 59 #[.func (.func valuesF) #[] #[.pointer (some ⟨Bm, 0, none⟩)]] w (ColPost w xs) := by
  go_enter Try.func59, Try.ntmps59
  go_wp2_with (go_at_call 76; refine (appendSeq_any Bm g xs _ hBm hm hmap hl).mono ?_; rintro r w1 ⟨ys, A, c, hp, rfl, ho, hb⟩)
  go_ret
  exact ⟨ys, A, c, hp, rfl, ho, hb⟩
set_option maxHeartbeats 2000000 in
theorem sortedFunc_any (Bm g : Nat) (xs : List StubE) (w : World) (hBm : Bm < w.heap.size) (hm : w.cell? ⟨Bm, 0, none⟩ = some (.map (some g))) (hmap : MapL KeyE.vv StubE.vv keyE w g xs) (hl : xs.length ≤ 1000000) :
    Calls Try.prog 29 #[.func (.func valuesF) #[] #[.pointer (some ⟨Bm, 0, none⟩)], .func (.func 31) #[] #[]] w (ListPost w xs) := by
  have hnd := hmap.nodup
  go_enter Try.func29, Try.ntmps29
  go_upto_region 2 with (go_at_call 59; refine (collect_any Bm g xs _ hBm hm hmap hl).mono ?_; rintro r w1 ⟨ys, A, c, hp, rfl, ho, hb⟩)
  have hyl : ys.length ≤ 1000000 := by rw [hp.out.length_eq]; exact hl
  go_wp2_with (go_at_call 60; refine (sortStub A c ys w.heap.size _ ho (by omega) hb.size).mono ?_; rintro r w2 ⟨rfl, q, hq, hqs, ho2, hb2, hg2⟩)
  have hql := hide hq.length_eq
  go_ret
  exact ⟨q, A, c, hide ⟨hq.trans hp.out, strictS hnd (hq.trans hp.out) hqs⟩, by rw [hql.out]; rfl, by rw [hql.out]; exact ho2, hb.trans hb2⟩
theorem values_mk (g : Nat) (w : World) : Calls Try.prog 30 #[.map (some g)] w fun r w' => r = .returned (.func (.func valuesF) #[] #[.pointer (some ⟨w.heap.size, 0, none⟩)]) ∧ w' = w.alloc (.cells #[.map (some g)] 61) := by
  go_enter Try.func30, Try.ntmps30
  go_wp2
  go_ret
  exact ⟨rfl, rfl⟩
set_option maxHeartbeats 1000000 in
theorem list_any (p g : Nat) (l : List StubE) (w : World) (h : TabAt w p g l) (hl : l.length ≤ 1000000) : Calls Try.prog 12 #[.pointer (some ⟨p, 0, none⟩)] w (ListPost w l) := by
  have hp := h.cell
  have hT := h.later
  go_enter Try.func12, Try.ntmps12
  go_wp2_with (first
    | (go_at_call 30; refine (values_mk g _).mono ?_; rintro r w1 ⟨rfl, hw1⟩; have b1 := box1 hw1.symm; have hz1 : w.heap.size < w1.heap.size := (by rw [hw1]; simp); clear hw1)
    | (go_at_call 29; refine (sortedFunc_any w.heap.size g l _ hz1 (((b1.1 _).2 0).1.trans rfl) (h.below (b1.2 w).below).2 hl).mono ?_; rintro r w2 ⟨q, A, c, hq, rfl, ho, hb⟩))
  go_ret
  exact ⟨q, A, c, hq, rfl, ho.mono (by omega), ((b1.2 w).below).trans (hb.mono (by omega))⟩
end Go.Proofs.Ytgddapgdeaeggaa

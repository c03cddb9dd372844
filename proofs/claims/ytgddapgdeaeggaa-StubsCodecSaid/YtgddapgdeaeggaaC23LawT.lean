/-
  Contracts of the functions of this seat that each theorem names: what a call returns, and that it writes nothing that was there before. The conditions stand in each theorem.
-/
import Derived.Test.YtgddapgdeaeggaaC23LawU
namespace Go.Proofs.Ytgddapgdeaeggaa
open Go.RowKit
attribute [local go_sem ↓] run_neq_StubE
/-- Sorted permutations of one list are equal. -/
theorem sortedS_unique {a b : List StubE} (ha : SortedS a) (hb : SortedS b) (hp : a.Perm b) : a = b :=
  sorted_unique (r := ltS) (fun x y h k => by unfold ltS at h k; omega) hp ha hb
theorem sortedS_map {F : StubE → StubE} (hF : ∀ e, keyE (F e) = keyE e) {q : List StubE} (h : SortedS q) : SortedS (q.map F) := by
  refine List.pairwise_map.2 (h.imp fun {x y} hxy => ?_)
  have h1 := hF x
  have h2 := hF y
  simp only [keyE, KeyE.mk.injEq] at h1 h2
  unfold ltS at hxy ⊢
  rw [h1.1, h1.2, h2.1, h2.2]; exact hxy
theorem sortedS_set {q : List StubE} (h : SortedS q) {j : Nat} {x v : StubE} (hx : q[j]? = some x) (hk : keyE x = keyE v) : SortedS (q.set j v) := by
  simp only [keyE, KeyE.mk.injEq] at hk
  refine List.pairwise_iff_getElem.2 fun i k hi hk' hik => ?_
  rw [List.length_set] at hi hk'
  have h0 := List.pairwise_iff_getElem.1 h i k hi hk' hik
  obtain ⟨hj1, hj2⟩ := List.getElem?_eq_some_iff.1 hx
  rw [List.getElem_set, List.getElem_set]
  split
  · split
    · omega
    · rename_i e _; subst e; rw [hj2] at h0; unfold ltS at h0 ⊢; rw [← hk.1, ← hk.2]; exact h0
  · split
    · rename_i e; subst e; rw [hj2] at h0; unfold ltS at h0 ⊢; rw [← hk.1, ← hk.2]; exact h0
    · exact h0
theorem perm_set {l q : List StubE} (hp : q.Perm l) {i j : Nat} {x v : StubE} (hx : l[i]? = some x) (hy : q[j]? = some x) : (q.set j v).Perm (l.set i v) := by
  have h1 : ∀ (l : List StubE) (i : Nat) (x : StubE), l[i]? = some x → (l.set i v).Perm (v :: l.eraseIdx i) ∧ l.Perm (x :: l.eraseIdx i) := by
    intro l i x hx
    obtain ⟨hi, hie⟩ := List.getElem?_eq_some_iff.1 hx
    refine ⟨?_, ?_⟩
    · rw [List.set_eq_take_append_cons_drop, if_pos hi, List.eraseIdx_eq_take_drop_succ]
      exact List.perm_middle
    · conv => lhs; rw [← List.take_append_drop i l, List.drop_eq_getElem_cons hi, hie]
      rw [List.eraseIdx_eq_take_drop_succ]
      exact List.perm_middle
  obtain ⟨a1, a2⟩ := h1 l i x hx
  obtain ⟨b1, b2⟩ := h1 q j x hy
  have : (x :: q.eraseIdx j).Perm (x :: l.eraseIdx i) := b2.symm.trans (hp.trans a2)
  exact b1.trans ((this.cons_inv.cons v).trans a1.symm)
theorem own_setStub {base g n cap : Nat} {w : World} {l : List StubE} (h : Own StubE.cells 12 37 base w (.slice (some ⟨g, 0, none⟩) n cap) l) {k : Nat} {x y : StubE} (hx : l[k]? = some x) :
    Own StubE.cells 12 37 base (w.setCells g (k * 12) y.cells) (.slice (some ⟨g, 0, none⟩) n cap) (l.set k y) := by
  have hk : k < l.length := (List.getElem?_eq_some_iff.1 hx).1
  have s0 := h.store StubE.enc (j := 0) (u := .int .i64 y.owner) (x' := { x with owner := y.owner }) hx (by omega) rfl
  have s1 := s0.store StubE.enc (j := 1) (u := .int .u64 y.number) (x' := { x with owner := y.owner, number := y.number }) (List.getElem?_set_self (by first | exact hk | (simp only [List.length_set]; exact hk))) (by omega) rfl
  have s2 := s1.store StubE.enc (j := 2) (u := .int .i64 y.iDMachine) (x' := { x with owner := y.owner, number := y.number, iDMachine := y.iDMachine }) (List.getElem?_set_self (by first | exact hk | (simp only [List.length_set]; exact hk))) (by omega) rfl
  have s3 := s2.store StubE.enc (j := 3) (u := .int .i64 y.iDSerial) (x' := { x with owner := y.owner, number := y.number, iDMachine := y.iDMachine, iDSerial := y.iDSerial }) (List.getElem?_set_self (by first | exact hk | (simp only [List.length_set]; exact hk))) (by omega) rfl
  have s4 := s3.store StubE.enc (j := 4) (u := .int .i64 y.clas) (x' := { x with owner := y.owner, number := y.number, iDMachine := y.iDMachine, iDSerial := y.iDSerial, clas := y.clas }) (List.getElem?_set_self (by first | exact hk | (simp only [List.length_set]; exact hk))) (by omega) rfl
  have s5 := s4.store StubE.enc (j := 5) (u := .int .i64 y.lastUse) (x' := { x with owner := y.owner, number := y.number, iDMachine := y.iDMachine, iDSerial := y.iDSerial, clas := y.clas, lastUse := y.lastUse }) (List.getElem?_set_self (by first | exact hk | (simp only [List.length_set]; exact hk))) (by omega) rfl
  have s6 := s5.store StubE.enc (j := 6) (u := .int .i64 y.distance) (x' := { x with owner := y.owner, number := y.number, iDMachine := y.iDMachine, iDSerial := y.iDSerial, clas := y.clas, lastUse := y.lastUse, distance := y.distance }) (List.getElem?_set_self (by first | exact hk | (simp only [List.length_set]; exact hk))) (by omega) rfl
  have s7 := s6.store StubE.enc (j := 7) (u := .bool y.touched) (x' := { x with owner := y.owner, number := y.number, iDMachine := y.iDMachine, iDSerial := y.iDSerial, clas := y.clas, lastUse := y.lastUse, distance := y.distance, touched := y.touched }) (List.getElem?_set_self (by first | exact hk | (simp only [List.length_set]; exact hk))) (by omega) rfl
  have s8 := s7.store StubE.enc (j := 8) (u := .bool y.weak) (x' := { x with owner := y.owner, number := y.number, iDMachine := y.iDMachine, iDSerial := y.iDSerial, clas := y.clas, lastUse := y.lastUse, distance := y.distance, touched := y.touched, weak := y.weak }) (List.getElem?_set_self (by first | exact hk | (simp only [List.length_set]; exact hk))) (by omega) rfl
  have s9 := s8.store StubE.enc (j := 9) (u := .bool y.dead) (x' := { x with owner := y.owner, number := y.number, iDMachine := y.iDMachine, iDSerial := y.iDSerial, clas := y.clas, lastUse := y.lastUse, distance := y.distance, touched := y.touched, weak := y.weak, dead := y.dead }) (List.getElem?_set_self (by first | exact hk | (simp only [List.length_set]; exact hk))) (by omega) rfl
  have s10 := s9.store StubE.enc (j := 10) (u := .int .i64 y.lockMachine) (x' := { x with owner := y.owner, number := y.number, iDMachine := y.iDMachine, iDSerial := y.iDSerial, clas := y.clas, lastUse := y.lastUse, distance := y.distance, touched := y.touched, weak := y.weak, dead := y.dead, lockMachine := y.lockMachine }) (List.getElem?_set_self (by first | exact hk | (simp only [List.length_set]; exact hk))) (by omega) rfl
  have s11 := s10.store StubE.enc (j := 11) (u := .int .i64 y.lockSerial) (x' := { x with owner := y.owner, number := y.number, iDMachine := y.iDMachine, iDSerial := y.iDSerial, clas := y.clas, lastUse := y.lastUse, distance := y.distance, touched := y.touched, weak := y.weak, dead := y.dead, lockMachine := y.lockMachine, lockSerial := y.lockSerial }) (List.getElem?_set_self (by first | exact hk | (simp only [List.length_set]; exact hk))) (by omega) rfl
  simp only [List.set_set] at s11
  exact s11
end Go.Proofs.Ytgddapgdeaeggaa

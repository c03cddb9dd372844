/-
  Contracts of the functions of this seat that each theorem names: what a call returns, and that it writes nothing that was there before. The conditions stand in each theorem.
-/
import Derived.Test.YtgddapgdeaeggaaGrpD
namespace Go.Proofs.Ytgddapgdeaeggaa
theorem keyP_iff {k : KeyE} {e : StubE} : keyP k.owner k.number e = decide (keyE e = k) := by
  rw [Bool.eq_iff_iff, decide_eq_true_eq, KeyE.ext_iff]
  simp [keyP, keyE]
theorem idP_iff {i : IDE} {e : StubE} : idP i e = decide (idE e = i) := ideq_iff
theorem at_l {l r : List StubE} (hi : Inv l) (hp : r.Perm l) (k : KeyE) : (atR r k = -1 ∧ findK keyE l k = none ∧ ∀ x ∈ l, keyE x ≠ k) ∨ ∃ (j i : Nat) (x : StubE), atR r k = (j : Int) ∧ r[j]? = some x ∧ keyE x = k ∧ findK keyE l k = some x ∧ l[i]? = some x := by
  rcases idxOf_cases (keyP k.owner k.number) r with ⟨h1, h2⟩ | ⟨j, x, h1, h2, h3, _⟩
  · have hno : ∀ x ∈ l, keyE x ≠ k := fun x hx => by
      obtain ⟨m, hm⟩ := List.getElem?_of_mem (hp.mem_iff.2 hx)
      have := h2 m x (List.getElem?_eq_some_iff.1 hm).1 hm
      rw [keyP_iff] at this
      simpa using this
    exact .inl ⟨h1, findK_none hno, hno⟩
  · rw [keyP_iff, decide_eq_true_eq] at h3
    obtain ⟨i, hi'⟩ := List.getElem?_of_mem (hp.mem_iff.1 (List.mem_of_getElem? h2))
    exact .inr ⟨j, i, x, h1, h2, h3, findK_at hi.keys hi' h3, hi'⟩
theorem id_l {l r : List StubE} (hi : Inv l) (hp : r.Perm l) (k : IDE) : (idR r k = -1 ∧ findK idE l k = none) ∨ ∃ (j : Nat) (x : StubE), idR r k = (j : Int) ∧ r[j]? = some x ∧ findK idE l k = some x := by
  rcases idxOf_cases (idP k) r with ⟨h1, h2⟩ | ⟨j, x, h1, h2, h3, _⟩
  · have hno : ∀ x ∈ l, idE x ≠ k := fun x hx => by
      obtain ⟨m, hm⟩ := List.getElem?_of_mem (hp.mem_iff.2 hx)
      have := h2 m x (List.getElem?_eq_some_iff.1 hm).1 hm
      rw [idP_iff] at this
      simpa using this
    exact .inl ⟨h1, findK_none hno⟩
  · rw [idP_iff, decide_eq_true_eq] at h3
    obtain ⟨i, hi'⟩ := List.getElem?_of_mem (hp.mem_iff.1 (List.mem_of_getElem? h2))
    exact .inr ⟨j, x, h1, h2, findK_at hi.ids hi' h3⟩
theorem addErr_same {l r : List StubE} (hi : Inv l) (hp : r.Perm l) (e : StubE) : addErrR r e = addErr l e := by
  unfold addErrR addErr hasK hasID
  rcases at_l hi hp (keyE e) with ⟨h1, h2, _⟩ | ⟨j, i, x, h1, _, _, h2, _⟩ <;> rcases id_l hi hp (idE e) with ⟨g1, g2⟩ | ⟨m, y, g1, _, g2⟩ <;> simp [h1, h2, g1, g2]
theorem putErr_same {l r : List StubE} (hi : Inv l) (hp : r.Perm l) (e : StubE) : putErrR r e = putErr l e := by
  have hk : (r.map keyE).Nodup := (hp.map keyE).symm.nodup hi.keys
  unfold putErrR putErr hasK hasID
  rcases at_l hi hp (keyE e) with ⟨h1, h2, _⟩ | ⟨j, i, x, h1, hx, hkx, h2, _⟩
  · simp [h1, h2]
  · rcases id_l hi hp (idE e) with ⟨g1, g2⟩ | ⟨m, y, g1, hy, g2⟩
    · have hj : ¬ ((j : Int) < 0) := by omega
      rw [h1, h2, g1, g2]; simp [hj]
    · have hiff : (m : Int) ≠ (j : Int) ↔ ¬ keyE y = keyE e := by
        constructor
        · intro h he
          exact h (by have := nodup_at hk hy hx (he.trans hkx.symm); omega)
        · intro h he
          have : m = j := by omega
          subst this
          rw [hx] at hy; injection hy with hy; subst hy
          exact h hkx
      have hj : ¬ ((j : Int) < 0) := by omega
      have hm : (0 : Int) ≤ (m : Int) := by omega
      rw [h1, h2, g1, g2]
      simp [hj, hm]
      by_cases hke : keyE y = keyE e
      · have : m = j := by
          by_cases hmj : m = j
          · exact hmj
          · exact absurd hke (hiff.1 (by omega))
        simp [hke, this]
      · simp [hke, hiff.2 hke]
theorem chErr_same {l r : List StubE} (hi : Inv l) (hp : r.Perm l) (k : KeyE) : chErrR r k = chErr l k := by
  unfold chErrR chErr hasK
  rcases at_l hi hp k with ⟨h1, h2, _⟩ | ⟨j, i, x, h1, _, _, h2, _⟩
  · simp [h1, h2]
  · have hj : ¬ ((j : Int) < 0) := by omega
    rw [h1, h2]; simp [hj]
theorem split_at {α : Type} {l : List α} {j : Nat} {x : α} (h : l[j]? = some x) : l = l.take j ++ x :: l.drop (j + 1) := by
  obtain ⟨hj, hx⟩ := List.getElem?_eq_some_iff.1 h
  rw [← hx, List.getElem_cons_drop, List.take_append_drop]
theorem remI_perm {r : List StubE} {j : Nat} {x : StubE} (h : r[j]? = some x) : r.Perm (x :: remI r j) := by
  refine (List.Perm.of_eq (split_at h)).trans ?_
  unfold remI
  exact List.perm_middle
theorem set_perm {l : List StubE} {i : Nat} {x v : StubE} (h : l[i]? = some x) : (l.set i v).Perm (v :: remI l i) := by
  have hi := (List.getElem?_eq_some_iff.1 h).1
  rw [List.set_eq_take_append_cons_drop, if_pos hi]
  unfold remI
  exact List.perm_middle
theorem remI_sorted {r : List StubE} (hs : SortedS r) (j : Nat) : SortedS (remI r j) := by
  refine hs.sublist ?_
  unfold remI
  calc List.Sublist (r.take j ++ r.drop (j + 1)) (r.take j ++ r.drop j) := (List.Sublist.refl _).append (by rw [show j + 1 = 1 + j by omega, Nat.add_comm, ← List.drop_drop]; exact List.drop_sublist 1 _)
    List.Sublist _ r := by rw [List.take_append_drop]; exact List.Sublist.refl _
theorem remI_keys {r : List StubE} (hk : (r.map keyE).Nodup) {j : Nat} {x : StubE} (h : r[j]? = some x) : ∀ y ∈ remI r j, keyE y ≠ keyE x := by
  have := ((remI_perm h).map keyE).nodup hk
  rw [List.map_cons, List.nodup_cons] at this
  intro y hy he
  exact this.1 (he ▸ List.mem_map_of_mem hy)
theorem remI_same {l r : List StubE} (hp : r.Perm l) {j i : Nat} {x : StubE} (hx : r[j]? = some x) (hy : l[i]? = some x) : (remI r j).Perm (remI l i) :=
  ((remI_perm hx).symm.trans (hp.trans (remI_perm hy))).cons_inv
theorem swap_ok {l r : List StubE} (hi : Inv l) (hs : SortedS r) (hp : r.Perm l) {j i : Nat} {x v : StubE} (hx : r[j]? = some x) (hy : l[i]? = some x) (hv : keyE x = keyE v) : SortedS (insR v (remI r j)) ∧ (insR v (remI r j)).Perm (putK keyE l v) := by
  have hk : (r.map keyE).Nodup := (hp.map keyE).symm.nodup hi.keys
  refine ⟨insR_sorted (remI_sorted hs j) (fun y hy => by rw [← hv]; exact remI_keys hk hx y hy), ?_⟩
  rw [putK_old hi.keys hy hv]
  exact (insR_perm v _).trans (((remI_same hp hx hy).cons v).trans (set_perm hy).symm)
theorem add_ok {l r : List StubE} (hi : Inv l) (hs : SortedS r) (hp : r.Perm l) (e : StubE) : SortedS (addR r e) ∧ (addR r e).Perm (addT l e) := by
  unfold addR addT
  rw [addErr_same hi hp]
  split
  · rename_i h0
    obtain ⟨_, h2, _⟩ := addErr_ok h0
    have hk := hasK_false h2
    rw [putK_new hk]
    exact ⟨insR_sorted hs fun x hx => hk x (hp.mem_iff.1 hx), (insR_perm e r).trans ((hp.cons e).trans (List.perm_append_singleton e l).symm)⟩
  · exact ⟨hs, hp⟩
theorem put_ok {l r : List StubE} (hi : Inv l) (hs : SortedS r) (hp : r.Perm l) (e : StubE) : SortedS (putR r e) ∧ (putR r e).Perm (putT l e) := by
  unfold putR putT
  rw [putErr_same hi hp]
  split
  · rename_i h0
    obtain ⟨_, h2, _⟩ := putErr_ok h0
    rcases at_l hi hp (keyE e) with ⟨_, h1, _⟩ | ⟨j, i, x, h1, hx, hkx, _, hy⟩
    · unfold hasK at h2; rw [h1] at h2; cases h2
    · rw [h1, Int.toNat_natCast]
      exact swap_ok hi hs hp hx hy hkx
  · exact ⟨hs, hp⟩
theorem ch_ok {l r : List StubE} (hi : Inv l) (hs : SortedS r) (hp : r.Perm l) {F : StubE → StubE} (hF : ∀ e, keyE (F e) = keyE e) (k : KeyE) : SortedS (chR F r k) ∧ (chR F r k).Perm (chT F l k) := by
  unfold chR chT chErrR
  rcases at_l hi hp k with ⟨h1, h2, _⟩ | ⟨j, i, x, h1, hx, hkx, h2, hy⟩
  · rw [h1, h2]; simpa using ⟨hs, hp⟩
  · have e0 : (if (j : Int) < 0 then (6 : Int) else 0) = 0 := if_neg (by omega)
    rw [h1, h2, Int.toNat_natCast, hx, e0, if_pos rfl]
    exact swap_ok hi hs hp hx hy (hF x).symm
theorem use_ok {l r : List StubE} (hi : Inv l) (hs : SortedS r) (hp : r.Perm l) (n : Int) (k : KeyE) : SortedS (useR n r k) ∧ (useR n r k).Perm (useT n l k) := by
  unfold useR useT
  split
  · exact ⟨hs, hp⟩
  · exact ch_ok (F := useE n) hi hs hp (fun _ => rfl) k
theorem rmv_ok {l r : List StubE} (hi : Inv l) (hs : SortedS r) (hp : r.Perm l) (k : KeyE) : SortedS (rmvR r k) ∧ (rmvR r k).Perm (remK keyE l k) := by
  have hk : (r.map keyE).Nodup := (hp.map keyE).symm.nodup hi.keys
  unfold rmvR remK chErrR
  rcases at_l hi hp k with ⟨h1, _, h3⟩ | ⟨j, i, x, h1, hx, hkx, _, _⟩
  · have e0 : (if (-1 : Int) < 0 then (6 : Int) else 0) = 6 := if_pos (by omega)
    rw [h1, e0, if_neg (by decide), List.filter_eq_self.2 fun x hx => by simpa using h3 x hx]
    exact ⟨hs, hp⟩
  · have e0 : (if (j : Int) < 0 then (6 : Int) else 0) = 0 := if_neg (by omega)
    rw [h1, Int.toNat_natCast, e0, if_pos rfl]
    refine ⟨remI_sorted hs j, ?_⟩
    have h4 : (r.filter fun x => !decide (keyE x = k)).Perm (remI r j) := by
      refine ((remI_perm hx).filter _).trans ?_
      rw [List.filter_cons_of_neg (by simp [hkx])]
      rw [List.filter_eq_self.2 fun y hy => by
        have := remI_keys hk hx y hy
        rw [hkx] at this
        simpa using this]
    exact h4.symm.trans (hp.filter _)
def modelR (r : List StubE) (c : CallE) : List StubE := if c.kind = 0 then addR r c.ent else if c.kind = 1 then putR r c.ent else if c.kind = 2 then useR c.n r (keyE c.ent) else if c.kind = 3 then chR touchE r (keyE c.ent) else if c.kind = 4 then rmvR r (keyE c.ent) else if c.kind = 5 then r.map clearE else r
def modelErr (r : List StubE) (c : CallE) : Int := if c.kind = 0 then addErrR r c.ent else if c.kind = 1 then putErrR r c.ent else if c.kind = 2 then useErrR c.n r (keyE c.ent) else if c.kind = 3 then chErrR r (keyE c.ent) else if c.kind = 4 then chErrR r (keyE c.ent) else 0
theorem model_ok {l r : List StubE} (hi : Inv l) (hs : SortedS r) (hp : r.Perm l) (c : CallE) : modelErr r c = callErr l c ∧ SortedS (modelR r c) ∧ (modelR r c).Perm (callT l c) := by
  unfold modelErr callErr modelR callT useErrR useErr
  rw [addErr_same hi hp, putErr_same hi hp, chErr_same hi hp]
  refine ⟨rfl, ?_⟩
  by_cases k0 : c.kind = 0
  · simp only [if_pos k0]; exact add_ok hi hs hp _
  simp only [if_neg k0]
  by_cases k1 : c.kind = 1
  · simp only [if_pos k1]; exact put_ok hi hs hp _
  simp only [if_neg k1]
  by_cases k2 : c.kind = 2
  · simp only [if_pos k2]; exact use_ok hi hs hp _ _
  simp only [if_neg k2]
  by_cases k3 : c.kind = 3
  · simp only [if_pos k3]; exact ch_ok (F := touchE) hi hs hp (fun _ => rfl) _
  simp only [if_neg k3]
  by_cases k4 : c.kind = 4
  · simp only [if_pos k4]; exact rmv_ok hi hs hp _
  simp only [if_neg k4]
  by_cases k5 : c.kind = 5
  · simp only [if_pos k5]; exact ⟨sortedS_map (F := clearE) (fun _ => rfl) hs, hp.map _⟩
  simp only [if_neg k5]
  exact ⟨hs, hp⟩
end Go.Proofs.Ytgddapgdeaeggaa

/-
  Decode inverts Encode, in plain Lean. No condition.
-/
import Derived.Test.YthigjlllhnajbaaC25DecPlain
namespace Go.Proofs.Ythigjlllhnajbaa
theorem rdU_uintL {n : Int} (h0 : 0 ≤ n) (h1 : n < 18446744073709551616) (r : List Int) : rdU (uintL n ++ r, 0) = (n, (r, 0)) := by
  obtain ⟨a, b, c⟩ := okU_of h0 h1 r
  simp [rdU, a, b, c]
theorem rdU_intL {n : Int} (h : I64r n) (r : List Int) : rdU (intL n ++ r, 0) = (zig n, (r, 0)) := rdU_uintL (zig_range h.1 h.2).1 (zig_range h.1 h.2).2 r
theorem rdB_boolL (v : Bool) (r : List Int) : rdB (boolL v ++ r, 0) = (v, (r, 0)) := by
  cases v <;> simp [rdB, boolL, okB1]
theorem rdE_encE {e : ListedE} (h : e.Rng) (r : List Int) : rdE (encE e ++ r, 0) = (e, (r, 0)) := by
  unfold rdE encE
  rw [List.append_assoc, List.append_assoc, rdU_uintL h.n0 h.n1]
  simp only
  rw [rdU_intL ⟨h.d0, h.d1⟩]
  simp only
  rw [rdB_boolL, unzig_zig]
theorem rdEs_enc {es : List ListedE} (h : ∀ e ∈ es, e.Rng) (r : List Int) : ∀ k, k ≤ es.length → rdEs k (es.flatMap encE ++ r, 0) = (es.take k, ((es.drop k).flatMap encE ++ r, 0))
  | 0, _ => by simp [rdEs]
  | k + 1, hk => by
    have ih := rdEs_enc h r k (by omega)
    unfold rdEs
    rw [ih]
    have hx : es[k]? = some es[k] := List.getElem?_eq_getElem (by omega)
    have hd : es.drop k = es[k] :: es.drop (k + 1) := List.drop_eq_getElem_cons (by omega)
    rw [hd, List.flatMap_cons, List.append_assoc, rdE_encE (h _ (List.getElem_mem _)), take_snoc_get hx]
theorem encE_len3 (e : ListedE) : 3 ≤ (encE e).length := by
  simp [encE, uintL, intL, boolL]; omega
theorem flat_len3 : ∀ (es : List ListedE), es.length ≤ (es.flatMap encE).length
  | [] => by simp
  | e :: es => by
    have := flat_len3 es
    have := encE_len3 e
    simp only [List.flatMap_cons, List.length_append, List.length_cons]; omega
theorem dec_enc {R S C : Int} {es : List ListedE} (hR : I64r R) (hS : I64r S) (hC : I64r C) (h : ∀ e ∈ es, e.Rng) (hl : es.length ≤ 1024) :
    decL (encL R S C es) = if headB R S C es.length && okB es then ((R, S, C), es, 0) else ((0, 0, 0), [], 11) := by
  have e1 : rdH (encL R S C es) = ((R, S, C), (uintL (es.length : Int) ++ es.flatMap encE, 0)) := by
    unfold rdH encL encH
    simp only [List.append_assoc]
    rw [rdU_intL hR]
    simp only
    rw [rdU_intL hS]
    simp only
    rw [rdU_intL hC]
    simp only [unzig_zig]
  have e2 : rdN (encL R S C es) = ((es.length : Int), (es.flatMap encE, 0)) := by
    unfold rdN
    rw [e1]
    have hu := rdU_uintL (n := (es.length : Int)) (by omega) (by omega) (es.flatMap encE)
    have hc : cntE 1024 (es.length : Int) (es.flatMap encE).length = 0 := by
      have := flat_len3 es
      unfold cntE; rw [if_neg (by omega), if_neg (by omega)]
    unfold rdC
    simp only [hu, hc, if_true]
  have e3 : rdL (encL R S C es) = (es, ([], 0)) := by
    unfold rdL
    rw [e2]
    have := rdEs_enc h [] es.length (Nat.le_refl _)
    simp only [List.append_nil, List.take_length, List.drop_length, List.flatMap_nil] at this
    rw [Int.toNat_natCast]; exact this
  unfold decL
  rw [e3, e1]
  simp [endE]
/-! ### The other way -/
theorem rdU_back {st : St} (h : (rdU st).2.2 = 0) (hb : Bytes st.1) : st.2 = 0 ∧ st.1 = uintL (rdU st).1 ++ (rdU st).2.1 ∧ Bytes (rdU st).2.1 := by
  obtain ⟨l, e⟩ := st
  unfold rdU at h ⊢
  by_cases he : e = 0
  · subst he
    by_cases ho : okU l = true
    · simp only [ho, if_true] at h ⊢
      exact ⟨trivial, okU_form hb ho, restU_bytes hb⟩
    · simp only [ho, if_true] at h; simp at h
  · simp only [he, if_false] at h
theorem rdB_back {st : St} (h : (rdB st).2.2 = 0) (hb : Bytes st.1) : st.2 = 0 ∧ st.1 = boolL (rdB st).1 ++ (rdB st).2.1 ∧ Bytes (rdB st).2.1 := by
  obtain ⟨l, e⟩ := st
  rw [rdB_eq] at h ⊢
  by_cases he : e = 0
  · subst he
    cases l with
    | nil => simp at h
    | cons x t =>
      by_cases hx : x ≤ 1
      · simp only [hx, if_true] at h ⊢
        have := hb x (by simp)
        refine ⟨trivial, ?_, hb.tail⟩
        rcases Int.lt_or_eq_of_le hx with h1 | h1
        · have : x = 0 := by omega
          subst this; rfl
        · subst h1; rfl
      · simp only [hx, if_true, if_false] at h; simp at h
  · simp only [he, if_false] at h
theorem rdC_back {m : Int} {st : St} (h : (rdC m st).2.2 = 0) (hb : Bytes st.1) : st.2 = 0 ∧ st.1 = uintL (rdC m st).1 ++ (rdC m st).2.1 ∧ Bytes (rdC m st).2.1 := by
  unfold rdC at h ⊢
  by_cases h0 : (rdU st).2.2 = 0
  · rw [if_pos h0] at h ⊢
    by_cases hc : cntE m (rdU st).1 (rdU st).2.1.length = 0
    · rw [if_pos hc] at h ⊢; exact rdU_back h hb
    · rw [if_neg hc] at h; exact absurd h hc
  · rw [if_neg h0] at h; exact absurd h h0
theorem intL_unzig {n : Int} (h : 0 ≤ n) : intL (unzig n) = uintL n := by unfold intL; rw [zig_unzig h]
theorem rdE_back {st : St} (h : (rdE st).2.2 = 0) (hb : Bytes st.1) : st.2 = 0 ∧ st.1 = encE (rdE st).1 ++ (rdE st).2.1 ∧ Bytes (rdE st).2.1 := by
  have b3 : ∀ hb2, _ := fun hb2 => rdB_back (st := (rdU (rdU st).2).2) h hb2
  have hu : ∀ {s : St}, Bytes s.1 → Bytes (rdU s).2.1 := by
    intro s hs
    unfold rdU
    split
    · split
      · exact restU_bytes hs
      · intro x hx; cases hx
    · exact hs
  obtain ⟨h3, e3, y3⟩ := b3 (hu (hu hb))
  obtain ⟨h2, e2, y2⟩ := rdU_back h3 (hu hb)
  obtain ⟨h1, e1, y1⟩ := rdU_back h2 hb
  refine ⟨h1, ?_, y3⟩
  have hz := (rdU_range (st := (rdU st).2) (hu hb)).1
  unfold rdE encE
  simp only
  rw [intL_unzig hz, List.append_assoc, List.append_assoc, ← e3, ← e2, ← e1]
theorem rdEs_back : ∀ (k : Nat) {st : St}, (rdEs k st).2.2 = 0 → Bytes st.1 → st.2 = 0 ∧ st.1 = (rdEs k st).1.flatMap encE ++ (rdEs k st).2.1 ∧ Bytes (rdEs k st).2.1
  | 0, st, h, hb => ⟨h, by simp [rdEs], hb⟩
  | k + 1, st, h, hb => by
    have hbk : ∀ (k : Nat) {s : St}, Bytes s.1 → Bytes (rdEs k s).2.1 := by
      have hu : ∀ {s : St}, Bytes s.1 → Bytes (rdU s).2.1 := by
        intro s hs
        unfold rdU
        split
        · split
          · exact restU_bytes hs
          · intro x hx; cases hx
        · exact hs
      have hB : ∀ {s : St}, Bytes s.1 → Bytes (rdB s).2.1 := by
        intro s hs
        unfold rdB
        split
        · split
          · exact hs.drop 1
          · intro x hx; cases hx
        · exact hs
      intro k
      induction k with
      | zero => intro s hs; exact hs
      | succ k ih => intro s hs; exact hB (hu (hu (ih hs)))
    have hE := rdE_back (st := (rdEs k st).2) h (hbk k hb)
    obtain ⟨h1, e1, y1⟩ := hE
    obtain ⟨h0, e0, y0⟩ := rdEs_back k h1 hb
    refine ⟨h0, ?_, y1⟩
    unfold rdEs
    simp only [List.flatMap_append, List.flatMap_cons, List.flatMap_nil, List.append_nil, List.append_assoc]
    rw [← e1, ← e0]
theorem enc_dec {b : List Int} (hb : Bytes b) {R S C e : Int} {es : List ListedE} (hd : decL b = ((R, S, C), es, e)) :
    (e = 0 → encL R S C es = b ∧ (headB R S C es.length && okB es) = true) ∧ (e ≠ 0 → R = 0 ∧ S = 0 ∧ C = 0 ∧ es = []) := by
  unfold decL at hd
  split at hd
  · rename_i he
    split at hd
    · rename_i hv
      have hf : (rdL b).2.2 = 0 ∧ (rdL b).2.1 = [] := by
        unfold endE at he
        split at he
        · cases he
        · rename_i h2
          refine ⟨he, ?_⟩
          by_cases h3 : (rdL b).2.1 = []
          · exact h3
          · exact absurd ⟨he, h3⟩ h2
      obtain ⟨h1, h2⟩ := Prod.mk.inj hd
      obtain ⟨h2, h3⟩ := Prod.mk.inj h2
      refine ⟨fun _ => ?_, fun h => absurd h3.symm h⟩
      have hu : ∀ {s : St}, Bytes s.1 → Bytes (rdU s).2.1 := by
        intro s hs
        unfold rdU
        split
        · split
          · exact restU_bytes hs
          · intro x hx; cases hx
        · exact hs
      have y1 : Bytes (rdU (b, 0)).2.1 := hu hb
      have y2 : Bytes (rdU (rdU (b, 0)).2).2.1 := hu y1
      have y3 : Bytes (rdH b).2.1 := hu y2
      have hc1 : Bytes (rdN b).2.1 := by
        unfold rdN rdC
        split
        · split
          · exact hu y3
          · intro x hx; cases hx
        · exact hu y3
      obtain ⟨f4, g4, z4⟩ := rdEs_back (rdN b).1.toNat (st := (rdN b).2) hf.1 hc1
      obtain ⟨f3, g3, z3⟩ := rdC_back (m := 1024) (st := (rdH b).2) f4 y3
      obtain ⟨f2, g2, z2⟩ := rdU_back (st := (rdU (rdU (b, 0)).2).2) f3 y2
      obtain ⟨f1, g1, z1⟩ := rdU_back (st := (rdU (b, 0)).2) f2 y1
      obtain ⟨f0, g0, z0⟩ := rdU_back (st := (b, 0)) f1 hb
      have hRSC : (rdH b).1 = (R, S, C) := h1
      obtain ⟨hR, hS2⟩ := Prod.mk.inj hRSC
      obtain ⟨hS, hC⟩ := Prod.mk.inj hS2
      have hlen : (rdL b).1.length = (rdN b).1.toNat := rdEs_len _ _
      have hn0 := (rdC_range (m := 1024) (st := (rdH b).2) (by decide) y3).1
      have q0 := (rdU_range (st := (b, 0)) hb).1
      have q1 := (rdU_range (st := (rdU (b, 0)).2) y1).1
      have q2 := (rdU_range (st := (rdU (rdU (b, 0)).2).2) y2).1
      rw [hRSC, h2] at hv
      refine ⟨?_, hv⟩
      rw [← h2]
      unfold encL encH
      rw [← hR, ← hS, ← hC, intL_unzig q0, intL_unzig q1, intL_unzig q2, hlen]
      have g4' : (rdN b).2.1 = (rdL b).1.flatMap encE := by
        have := g4
        unfold rdL at hf ⊢
        rw [hf.2, List.append_nil] at this
        exact this
      have hnn : (((rdN b).1.toNat : Nat) : Int) = (rdN b).1 := Int.toNat_of_nonneg hn0
      rw [hnn, ← g4', List.append_assoc, List.append_assoc, List.append_assoc]
      have g3' : (rdH b).2.1 = uintL (rdN b).1 ++ (rdN b).2.1 := g3
      rw [← g3']
      have g2' : (rdU (rdU (b, 0)).2).2.1 = uintL (rdU (rdU (rdU (b, 0)).2).2).1 ++ (rdH b).2.1 := g2
      rw [← g2', ← g1, ← g0]
    · obtain ⟨h1, h2⟩ := Prod.mk.inj hd
      obtain ⟨h2, h3⟩ := Prod.mk.inj h2
      obtain ⟨hR, hS⟩ := Prod.mk.inj h1
      obtain ⟨hS, hC⟩ := Prod.mk.inj hS
      exact ⟨fun h => absurd (h3.trans h) (by decide), fun _ => ⟨hR.symm, hS.symm, hC.symm, h2.symm⟩⟩
  · rename_i he
    obtain ⟨h1, h2⟩ := Prod.mk.inj hd
    obtain ⟨h2, h3⟩ := Prod.mk.inj h2
    obtain ⟨hR, hS⟩ := Prod.mk.inj h1
    obtain ⟨hS, hC⟩ := Prod.mk.inj hS
    exact ⟨fun h => absurd (h3.trans h) he, fun _ => ⟨hR.symm, hS.symm, hC.symm, h2.symm⟩⟩
end Go.Proofs.Ythigjlllhnajbaa

/-
  Small texts of this seat, put into one. Conditions stand in each theorem.
-/
import Derived.Test.YtomgdkfoinojiaaGrpY
import Derived.Test.YtomgdkfoinojiaaS32Enc
set_option linter.unusedSimpArgs false
set_option linter.unusedVariables false
namespace Go.Proofs.Ytomgdkfoinojiaa
abbrev St := List Int × Int
theorem rdU_bytes {s : St} (hs : Bytes s.1) : Bytes (rdU s).2.1 := by
  unfold rdU
  split
  · split
    · exact restU_bytes hs
    · intro x hx; cases hx
  · exact hs
theorem rdB_bytes {s : St} (hs : Bytes s.1) : Bytes (rdB s).2.1 := by
  unfold rdB
  split
  · split
    · exact hs.drop 1
    · intro x hx; cases hx
  · exact hs
theorem rdC_bytes {m : Int} {s : St} (hs : Bytes s.1) : Bytes (rdC m s).2.1 := by
  unfold rdC
  split
  · split
    · exact rdU_bytes hs
    · intro x hx; cases hx
  · exact rdU_bytes hs
theorem rdC_range {m : Int} {st : St} (hm : 0 ≤ m) (h : Bytes st.1) : 0 ≤ (rdC m st).1 ∧ (rdC m st).1 ≤ m := by
  have hr := rdU_range h
  unfold rdC
  split
  · split
    · rename_i h2
      unfold cntE at h2
      split at h2
      · cases h2
      · exact ⟨hr.1, by omega⟩
    · exact ⟨by simp, by simpa using hm⟩
  · exact ⟨by simp, by simpa using hm⟩
/-- A reader gives back what its writer wrote, and takes nothing else. -/
structure Rd {α : Type} (p : St → α × St) (enc : α → List Int) (R : α → Prop) : Prop where
  fwd : ∀ a, R a → ∀ r, p (enc a ++ r, 0) = (a, (r, 0))
  back : ∀ st : St, Bytes st.1 → (p st).2.2 = 0 → st.2 = 0 ∧ st.1 = enc (p st).1 ++ (p st).2.1
  bytes : ∀ st : St, Bytes st.1 → Bytes (p st).2.1
  rng : ∀ st : St, Bytes st.1 → R (p st).1
theorem rdU_rd : Rd rdU uintL (fun n => 0 ≤ n ∧ n < 18446744073709551616) where
  fwd n h r := by
    obtain ⟨a, b, c⟩ := okU_of h.1 h.2 r
    simp [rdU, a, b, c]
  back st hb h := by
    obtain ⟨l, e⟩ := st
    unfold rdU at h ⊢
    by_cases he : e = 0
    · subst he
      by_cases ho : okU l = true
      · simp only [ho, if_true] at h ⊢
        exact ⟨trivial, okU_form hb ho⟩
      · simp only [ho, if_true] at h; simp at h
    · simp only [he, if_false] at h
  bytes st hb := rdU_bytes hb
  rng st hb := rdU_range hb
theorem rdB_rd : Rd rdB boolL (fun _ => True) where
  fwd v _ r := by cases v <;> simp [rdB, boolL, okB1]
  back st hb h := by
    obtain ⟨l, e⟩ := st
    rw [rdB_eq] at h ⊢
    by_cases he : e = 0
    · subst he
      cases l with
      | nil => simp at h
      | cons x t =>
        by_cases hx : x ≤ 1
        · simp only [hx, if_true] at h ⊢
          have := hb x (by simp)
          refine ⟨trivial, ?_⟩
          rcases Int.lt_or_eq_of_le hx with h1 | h1
          · have : x = 0 := by omega
            subst this; rfl
          · subst h1; rfl
        · simp only [hx, if_true, if_false] at h; simp at h
    · simp only [he, if_false] at h
  bytes st hb := rdB_bytes hb
  rng st hb := trivial
/-- One behind the other. -/
def andR {α β : Type} (p : St → α × St) (q : St → β × St) (st : St) : (α × β) × St := (((p st).1, (q (p st).2).1), (q (p st).2).2)
theorem Rd.and {α β : Type} {p : St → α × St} {q : St → β × St} {e : α → List Int} {f : β → List Int} {R : α → Prop} {S : β → Prop} (hp : Rd p e R) (hq : Rd q f S) : Rd (andR p q) (fun x => e x.1 ++ f x.2) (fun x => R x.1 ∧ S x.2) where
  fwd a h r := by unfold andR; rw [List.append_assoc, hp.fwd _ h.1]; simp only; rw [hq.fwd _ h.2]
  back st hb h := by
    obtain ⟨h1, e1⟩ := hq.back (p st).2 (hp.bytes st hb) h
    obtain ⟨h0, e0⟩ := hp.back st hb h1
    refine ⟨h0, ?_⟩
    unfold andR
    simp only
    rw [List.append_assoc, ← e1, ← e0]
  bytes st hb := hq.bytes _ (hp.bytes st hb)
  rng st hb := ⟨hp.rng st hb, hq.rng _ (hp.bytes st hb)⟩
theorem Rd.map {α β : Type} {p : St → α × St} {e : α → List Int} {R : α → Prop} (hp : Rd p e R) (g : α → β) (g' : β → α) (h1 : ∀ a, g' (g a) = a) (h2 : ∀ b, g (g' b) = b) : Rd (fun st => (g (p st).1, (p st).2)) (fun b => e (g' b)) (fun b => R (g' b)) where
  fwd b h r := by simp only [hp.fwd _ h, h2]
  back st hb h := by
    obtain ⟨h0, e0⟩ := hp.back st hb h
    exact ⟨h0, by simp only [h1]; exact e0⟩
  bytes st hb := hp.bytes st hb
  rng st hb := by simp only [h1]; exact hp.rng st hb
/-- k times. -/
def repR {α : Type} (p : St → α × St) : Nat → St → List α × St
  | 0, st => ([], st)
  | k + 1, st => ((repR p k st).1 ++ [(p (repR p k st).2).1], (p (repR p k st).2).2)
theorem repR_len {α : Type} {p : St → α × St} : ∀ (k : Nat) (st : St), (repR p k st).1.length = k
  | 0, _ => rfl
  | k + 1, st => by simp [repR, repR_len k st]
theorem repR_bytes {α : Type} {p : St → α × St} {e : α → List Int} {R : α → Prop} (hp : Rd p e R) : ∀ (k : Nat) (st : St), Bytes st.1 → Bytes (repR p k st).2.1
  | 0, _, h => h
  | k + 1, st, h => hp.bytes _ (repR_bytes hp k st h)
theorem repR_rng {α : Type} {p : St → α × St} {e : α → List Int} {R : α → Prop} (hp : Rd p e R) : ∀ (k : Nat) (st : St), Bytes st.1 → ∀ a ∈ (repR p k st).1, R a
  | 0, _, _, a, ha => by cases ha
  | k + 1, st, h, a, ha => by
    unfold repR at ha
    simp only at ha
    rcases List.mem_append.1 ha with ha | ha
    · exact repR_rng hp k st h a ha
    · rw [List.mem_singleton] at ha
      subst ha
      exact hp.rng _ (repR_bytes hp k st h)
theorem repR_fwd {α : Type} {p : St → α × St} {e : α → List Int} {R : α → Prop} (hp : Rd p e R) {l : List α} (hl : ∀ a ∈ l, R a) (r : List Int) : ∀ k, k ≤ l.length → repR p k (l.flatMap e ++ r, 0) = (l.take k, ((l.drop k).flatMap e ++ r, 0))
  | 0, _ => by simp [repR]
  | k + 1, hk => by
    have ih := repR_fwd hp hl r k (by omega)
    unfold repR
    rw [ih]
    have hx : l[k]? = some l[k] := List.getElem?_eq_getElem (by omega)
    have hd : l.drop k = l[k] :: l.drop (k + 1) := List.drop_eq_getElem_cons (by omega)
    rw [hd, List.flatMap_cons, List.append_assoc, hp.fwd _ (hl _ (List.getElem_mem _)), take_snoc_get hx]
theorem repR_back {α : Type} {p : St → α × St} {e : α → List Int} {R : α → Prop} (hp : Rd p e R) : ∀ (k : Nat) (st : St), Bytes st.1 → (repR p k st).2.2 = 0 → st.2 = 0 ∧ st.1 = (repR p k st).1.flatMap e ++ (repR p k st).2.1
  | 0, st, _, h => ⟨h, by simp [repR]⟩
  | k + 1, st, hb, h => by
    obtain ⟨h1, e1⟩ := hp.back _ (repR_bytes hp k st hb) h
    obtain ⟨h0, e0⟩ := repR_back hp k st hb h1
    refine ⟨h0, ?_⟩
    unfold repR
    simp only [List.flatMap_append, List.flatMap_cons, List.flatMap_nil, List.append_nil, List.append_assoc]
    rw [← e1, ← e0]
/-- A count, and so many. -/
def cntR {α : Type} (p : St → α × St) (st : St) : List α × St := repR p (rdC 1024 st).1.toNat (rdC 1024 st).2
theorem flat_ge {α : Type} {e : α → List Int} (he : ∀ a, 1 ≤ (e a).length) : ∀ l : List α, l.length ≤ (l.flatMap e).length
  | [] => by simp
  | a :: l => by
    have := flat_ge he l
    have := he a
    simp only [List.flatMap_cons, List.length_append, List.length_cons]; omega
theorem Rd.cnt {α : Type} {p : St → α × St} {e : α → List Int} {R : α → Prop} (hp : Rd p e R) (he : ∀ a, 1 ≤ (e a).length) : Rd (cntR p) (fun l => uintL (l.length : Int) ++ l.flatMap e) (fun l => l.length ≤ 1024 ∧ ∀ a ∈ l, R a) where
  fwd l h r := by
    have hu := rdU_rd.fwd (l.length : Int) ⟨by omega, by omega⟩ (l.flatMap e ++ r)
    have hc : cntE 1024 (l.length : Int) (l.flatMap e ++ r).length = 0 := by
      have := flat_ge he l
      have h1 := h.1
      unfold cntE; rw [if_neg (by omega), if_neg (by rw [List.length_append]; omega)]
    have hC : rdC 1024 (uintL (l.length : Int) ++ (l.flatMap e ++ r), 0) = ((l.length : Int), (l.flatMap e ++ r, 0)) := by
      unfold rdC
      simp only [hu, hc, if_true]
    unfold cntR
    rw [List.append_assoc, hC]
    simp only [Int.toNat_natCast]
    rw [repR_fwd hp h.2 r l.length (Nat.le_refl _), List.take_length, List.drop_length]
    simp
  back st hb h := by
    have hbc := rdC_bytes (m := 1024) hb
    obtain ⟨h1, e1⟩ := repR_back hp _ _ hbc h
    have hr := rdC_range (m := 1024) (st := st) (by decide) hb
    have hlen : (cntR p st).1.length = (rdC 1024 st).1.toNat := repR_len _ _
    have key : st.2 = 0 ∧ st.1 = uintL (rdC 1024 st).1 ++ (rdC 1024 st).2.1 := by
      unfold rdC at h1 ⊢
      by_cases h0 : (rdU st).2.2 = 0
      · rw [if_pos h0] at h1 ⊢
        by_cases hc : cntE 1024 (rdU st).1 (rdU st).2.1.length = 0
        · rw [if_pos hc] at h1 ⊢; exact rdU_rd.back st hb h1
        · rw [if_neg hc] at h1; exact absurd h1 hc
      · rw [if_neg h0] at h1; exact absurd h1 h0
    refine ⟨key.1, ?_⟩
    show st.1 = (uintL ((cntR p st).1.length : Int) ++ (cntR p st).1.flatMap e) ++ (cntR p st).2.1
    rw [hlen, Int.toNat_of_nonneg hr.1, List.append_assoc]
    have e2 : (rdC 1024 st).2.1 = (cntR p st).1.flatMap e ++ (cntR p st).2.1 := e1
    rw [← e2]
    exact key.2
  bytes st hb := repR_bytes hp _ _ (rdC_bytes hb)
  rng st hb := by
    have hr := rdC_range (m := 1024) (st := st) (by decide) hb
    have hlen : (cntR p st).1.length = (rdC 1024 st).1.toNat := repR_len _ _
    exact ⟨by rw [hlen]; omega, repR_rng hp _ _ (rdC_bytes hb)⟩
/-- Numbers as they stand in the bytes. -/
def rdIn (st : St) : InsetE × St := (⟨(andR rdU (andR rdU rdU) st).1.1, (andR rdU (andR rdU rdU) st).1.2.1, (andR rdU (andR rdU rdU) st).1.2.2⟩, (andR rdU (andR rdU rdU) st).2)
def RIn (y : InsetE) : Prop := (0 ≤ y.client ∧ y.client < 18446744073709551616) ∧ (0 ≤ y.number ∧ y.number < 18446744073709551616) ∧ (0 ≤ y.out ∧ y.out < 18446744073709551616)
theorem rdIn_rd : Rd rdIn encIn RIn := by
  have h := (rdU_rd.and (rdU_rd.and rdU_rd)).map (fun x => (⟨x.1, x.2.1, x.2.2⟩ : InsetE)) (fun y => (y.client, y.number, y.out)) (fun _ => rfl) (fun _ => rfl)
  have e : (fun b : InsetE => uintL b.client ++ (uintL b.number ++ uintL b.out)) = encIn := by funext b; simp [encIn]
  simp only at h
  rw [e] at h
  exact h
def rdSu (st : St) : SumC × St :=
  let x := andR rdU (andR rdU (andR rdB (andR rdU (cntR rdIn)))) st
  (⟨x.1.1, x.1.2.1, x.1.2.2.1, x.1.2.2.2.1, x.1.2.2.2.2⟩, x.2)
def RSu (x : SumC) : Prop := (0 ≤ x.owner ∧ x.owner < 18446744073709551616) ∧ (0 ≤ x.number ∧ x.number < 18446744073709551616) ∧ True ∧ (0 ≤ x.distance ∧ x.distance < 18446744073709551616) ∧ (x.inset.length ≤ 1024 ∧ ∀ y ∈ x.inset, RIn y)
theorem uintL_pos (n : Int) : 1 ≤ (uintL n).length := by unfold uintL; simp
theorem encIn_pos (y : InsetE) : 1 ≤ (encIn y).length := by have := uintL_pos y.client; unfold encIn; simp only [List.length_append]; omega
theorem encSu_pos (x : SumC) : 1 ≤ (encSu x).length := by have := uintL_pos x.owner; unfold encSu encSh; simp only [List.length_append]; omega
theorem rdSu_rd : Rd rdSu encSu RSu := by
  have h := (rdU_rd.and (rdU_rd.and (rdB_rd.and (rdU_rd.and (rdIn_rd.cnt encIn_pos))))).map (fun x => (⟨x.1, x.2.1, x.2.2.1, x.2.2.2.1, x.2.2.2.2⟩ : SumC)) (fun y => (y.owner, y.number, y.rooted, y.distance, y.inset)) (fun _ => rfl) (fun _ => rfl)
  have e : (fun b : SumC => uintL b.owner ++ (uintL b.number ++ (boolL b.rooted ++ (uintL b.distance ++ (uintL (b.inset.length : Int) ++ b.inset.flatMap encIn))))) = encSu := by funext b; simp [encSu, encSh]
  simp only at h
  rw [e] at h
  exact h
def rdS : St → (Int × List SumC) × St := andR rdU (cntR rdSu)
theorem rdS_rd : Rd rdS (fun x => encS x.1 x.2) (fun x => (0 ≤ x.1 ∧ x.1 < 18446744073709551616) ∧ (x.2.length ≤ 1024 ∧ ∀ y ∈ x.2, RSu y)) := by
  have h := rdU_rd.and (rdSu_rd.cnt encSu_pos)
  have e : (fun x : Int × List SumC => uintL x.1 ++ (uintL (x.2.length : Int) ++ x.2.flatMap encSu)) = fun x => encS x.1 x.2 := by funext x; simp [encS]
  rw [e] at h
  exact h
end Go.Proofs.Ytomgdkfoinojiaa

namespace Go.Proofs.Ytomgdkfoinojiaa
/-- A number of 64 bits, read with a sign. -/
def i64 (n : Int) : Int := if n < 9223372036854775808 then n else n - 18446744073709551616
theorem i64_id {n : Int} (h : n < 9223372036854775808) : i64 n = n := if_pos h
theorem i64_back {n : Int} (h0 : n < 18446744073709551616) (h : 0 ≤ i64 n) : i64 n = n := by unfold i64 at *; split <;> rename_i h1 <;> simp only [h1, if_true, if_false] at h <;> omega
def cvI (y : InsetE) : InsetE := ⟨i64 y.client, y.number, i64 y.out⟩
def cvS (x : SumC) : SumC := ⟨i64 x.owner, x.number, x.rooted, i64 x.distance, x.inset.map cvI⟩
def endE (st : St) : Int := if st.2 = 0 ∧ st.1 ≠ [] then 11 else st.2
theorem endE_zero {st : St} : endE st = 0 ↔ st = ([], 0) := by
  obtain ⟨l, e⟩ := st
  unfold endE
  simp only
  constructor
  · intro h
    split at h
    · cases h
    · rename_i h1
      by_cases hl : l = []
      · rw [hl, h]
      · exact absurd ⟨h, hl⟩ h1
  · intro h
    injection h with h1 h2
    subst h1 h2
    simp
/-- What Decode answers: the epoch, the stubs, the error. -/
def decS (b : List Int) : Int × List SumC × Int :=
  if endE (rdS (b, 0)).2 = 0 ∧ validS (i64 (rdS (b, 0)).1.1) ((rdS (b, 0)).1.2.map cvS) = true then (i64 (rdS (b, 0)).1.1, (rdS (b, 0)).1.2.map cvS, 0) else (0, [], 11)
theorem cvS_id {x : SumC} (h : okS x = true) (hr : x.Rng) : cvS x = x := by
  obtain ⟨h1, h2, h3, h4, h5, h6⟩ := okS_of h
  obtain ⟨o, n, r, d, il⟩ := x
  simp only at h1 h2 h3 h4 h5 h6
  have hy := hr.y
  simp only at hy
  unfold cvS
  simp only
  rw [i64_id (by omega), i64_id (by omega)]
  have : il.map cvI = il := by
    rw [List.map_congr_left (g := id) fun y hy' => ?_, List.map_id]
    obtain ⟨m, hm⟩ := List.getElem?_of_mem hy'
    obtain ⟨a, b, c⟩ := okIn_of h6 hm
    obtain ⟨_, _, g⟩ := hy y hy'
    obtain ⟨yc, yn, yo⟩ := y
    simp only at a b c g
    unfold cvI
    simp only
    rw [i64_id (by omega), i64_id (by omega)]
    rfl
  rw [this]
theorem RSu_of {x : SumC} (h : okS x = true) (hr : x.Rng) : RSu x := by
  obtain ⟨h1, h2, h3, h4, h5, h6⟩ := okS_of h
  refine ⟨⟨by omega, by omega⟩, ⟨hr.n0, hr.n1⟩, trivial, ⟨by omega, by omega⟩, h5, fun y hy => ?_⟩
  obtain ⟨m, hm⟩ := List.getElem?_of_mem hy
  obtain ⟨a, b, c⟩ := okIn_of h6 hm
  obtain ⟨d, e, f⟩ := hr.y y hy
  exact ⟨⟨by omega, by omega⟩, ⟨d, e⟩, ⟨c, by omega⟩⟩
theorem dec_enc {ep : Int} {l : List SumC} (hv : validS ep l = true) (hep : ep < 9223372036854775808) (hr : ∀ x ∈ l, x.Rng) : decS (encS ep l) = (ep, l, 0) := by
  obtain ⟨h0, h1, h2⟩ := validS_of hv
  have hok : ∀ x ∈ l, okS x = true := fun x hx => by obtain ⟨k, hk⟩ := List.getElem?_of_mem hx; exact h2 k x hk
  have hf := rdS_rd.fwd (ep, l) ⟨⟨h0, by omega⟩, h1, fun y hy => RSu_of (hok y hy) (hr y hy)⟩ []
  simp only [List.append_nil] at hf
  have hm : l.map cvS = l := by
    rw [List.map_congr_left (g := id) fun x hx => by rw [cvS_id (hok x hx) (hr x hx)]; rfl, List.map_id]
  unfold decS
  rw [hf]
  simp only
  rw [i64_id hep, hm, if_pos ⟨endE_zero.2 rfl, hv⟩]
theorem i64_lt {n : Int} (h : i64 n = n) : n < 9223372036854775808 := by
  unfold i64 at h
  split at h
  · assumption
  · omega
theorem cvS_back {x : SumC} (hr : RSu x) (h : okS (cvS x) = true) : cvS x = x := by
  obtain ⟨h1, h2, h3, h4, h5, h6⟩ := okS_of h
  obtain ⟨o, n, r, d, il⟩ := x
  obtain ⟨g1, g2, _, g4, g5, g6⟩ := hr
  unfold cvS at h1 h2 h3 h4 h5 h6 ⊢
  simp only at h1 h2 h3 h4 h5 h6 g1 g2 g4 g5 g6 ⊢
  rw [i64_back g1.2 (by omega), i64_back g4.2 (by omega)]
  have : il.map cvI = il := by
    rw [List.map_congr_left (g := id) fun y hy' => ?_, List.map_id]
    obtain ⟨m, hm⟩ := List.getElem?_of_mem hy'
    have hm2 : (il.map cvI)[m]? = some (cvI y) := by rw [List.getElem?_map, hm]; rfl
    obtain ⟨a, b, c⟩ := okIn_of h6 hm2
    obtain ⟨k1, k2, k3⟩ := g6 y hy'
    obtain ⟨yc, yn, yo⟩ := y
    unfold cvI at a b c ⊢
    simp only at a b c k1 k2 k3 ⊢
    rw [i64_back k1.2 (by omega), i64_back k3.2 c]
    rfl
  rw [this]
theorem decS_zero {b : List Int} (hb : Bytes b) (hd : (decS b).2.2 = 0) : encS (decS b).1 (decS b).2.1 = b ∧ validS (decS b).1 (decS b).2.1 = true ∧ (0 ≤ (decS b).1 ∧ (decS b).1 < 9223372036854775808) ∧ ∀ x ∈ (decS b).2.1, x.Rng := by
  unfold decS at hd ⊢
  by_cases h : endE (rdS (b, 0)).2 = 0 ∧ validS (i64 (rdS (b, 0)).1.1) ((rdS (b, 0)).1.2.map cvS) = true
  · rw [if_pos h] at hd ⊢
    simp only
    have hst := endE_zero.1 h.1
    obtain ⟨_, e0⟩ := rdS_rd.back (b, 0) hb (by rw [hst])
    obtain ⟨g1, g2, g3⟩ := rdS_rd.rng (b, 0) hb
    rw [hst] at e0
    simp only [List.append_nil] at e0
    obtain ⟨h0, h1, h2⟩ := validS_of h.2
    have hall : (rdS (b, 0)).1.2.map cvS = (rdS (b, 0)).1.2 := by
      rw [List.map_congr_left (g := id) fun x hx => ?_, List.map_id]
      obtain ⟨k, hk⟩ := List.getElem?_of_mem hx
      exact cvS_back (g3 x hx) (h2 k _ (by rw [List.getElem?_map, hk]; rfl))
    have hep := i64_back g1.2 h0
    rw [hall] at h2
    refine ⟨by rw [hall, hep]; exact e0.symm, h.2, ⟨h0, ?_⟩, fun x hx => ?_⟩
    · unfold i64 at hep ⊢
      split <;> rename_i h3
      · exact h3
      · rw [if_neg h3] at hep; omega
    · rw [hall] at hx
      obtain ⟨k, hk⟩ := List.getElem?_of_mem hx
      obtain ⟨_, _, _, _, _, q6⟩ := okS_of (h2 k x hk)
      obtain ⟨_, r2, _, _, _, r6⟩ := g3 x hx
      refine ⟨r2.1, r2.2, fun y hy => ?_⟩
      obtain ⟨m, hm⟩ := List.getElem?_of_mem hy
      obtain ⟨s1, s2, s3⟩ := r6 y hy
      refine ⟨s2.1, s2.2, ?_⟩
      have hcx : cvS x = x := by
        have hm : x ∈ (rdS (b, 0)).1.2 := hx
        have h9 := congrArg (fun l : List SumC => l[k]?) hall
        simp only [List.getElem?_map, hk, Option.map_some] at h9
        exact Option.some.inj h9
      have h8 := congrArg (fun z : SumC => z.inset[m]?) hcx
      simp only [cvS, List.getElem?_map, hm, Option.map_some] at h8
      have h7 := congrArg InsetE.out (Option.some.inj h8)
      exact i64_lt h7
  · rw [if_neg h] at hd
    cases hd
end Go.Proofs.Ytomgdkfoinojiaa

namespace Go.Proofs.Ytomgdkfoinojiaa
theorem uintL_by {n : Int} (h : n < 18446744073709551616) : Bytes (uintL n) := by
  intro x hx
  have h8 : (digs n.toNat).length ≤ 8 := digs_len (by omega)
  rcases List.mem_cons.1 hx with rfl | hx
  · omega
  · exact digs_range x hx
theorem by_app {a b : List Int} (ha : Bytes a) (hb : Bytes b) : Bytes (a ++ b) := fun x hx => (List.mem_append.1 hx).elim (ha x) (hb x)
theorem boolL_by (b : Bool) : Bytes (boolL b) := by intro x hx; cases b <;> simp [boolL] at hx <;> omega
theorem flat_by {α : Type} {f : α → List Int} {l : List α} (h : ∀ x ∈ l, Bytes (f x)) : Bytes (l.flatMap f) := fun x hx => by
  obtain ⟨e, he, hx⟩ := List.mem_flatMap.1 hx
  exact h e he x hx
theorem flat_le {α : Type} {f : α → List Int} {m : Nat} : ∀ {l : List α}, (∀ x ∈ l, (f x).length ≤ m) → (l.flatMap f).length ≤ m * l.length
  | [], _ => by simp
  | a :: l, h => by
    have h1 := flat_le (l := l) fun x hx => h x (List.mem_cons_of_mem _ hx)
    have h2 := h a (by simp)
    simp only [List.flatMap_cons, List.length_append, List.length_cons, Nat.mul_add, Nat.mul_one]; omega
theorem encIn_by {y : InsetE} (h : RIn y) : Bytes (encIn y) := by_app (by_app (uintL_by h.1.2) (uintL_by h.2.1.2)) (uintL_by h.2.2.2)
theorem encIn_len {y : InsetE} (h : RIn y) : (encIn y).length ≤ 27 := by
  have h1 := uintL_len h.1.2
  have h2 := uintL_len h.2.1.2
  have h3 := uintL_len h.2.2.2
  unfold encIn
  simp only [List.length_append]; omega
theorem boolL_len (b : Bool) : (boolL b).length = 1 := by cases b <;> rfl
theorem encSu_by {x : SumC} (h : RSu x) : Bytes (encSu x) := by
  obtain ⟨h1, h2, _, h4, h5, h6⟩ := h
  refine by_app (by_app (by_app (by_app (by_app (uintL_by h1.2) (uintL_by h2.2)) (boolL_by _)) (uintL_by h4.2)) (uintL_by (by omega))) (flat_by fun y hy => encIn_by (h6 y hy))
theorem encSu_len {x : SumC} (h : RSu x) : (encSu x).length ≤ 28000 := by
  obtain ⟨h1, h2, _, h4, h5, h6⟩ := h
  have a1 := uintL_len h1.2
  have a2 := uintL_len h2.2
  have a3 := boolL_len x.rooted
  have a4 := uintL_len h4.2
  have a5 := uintL_len (n := (x.inset.length : Int)) (by omega)
  have a6 := flat_le (f := encIn) (m := 27) fun y hy => encIn_len (h6 y hy)
  unfold encSu encSh
  simp only [List.length_append]; omega
theorem encS_rng {ep : Int} {l : List SumC} (hv : validS ep l = true) (hep : ep < 9223372036854775808) (hr : ∀ x ∈ l, x.Rng) : 0 ≤ ep ∧ l.length ≤ 1024 ∧ (∀ x ∈ l, RSu x) ∧ ∀ x ∈ l, x.inset.length ≤ 1024 := by
  obtain ⟨h0, h1, h2⟩ := validS_of hv
  have hok : ∀ x ∈ l, okS x = true := fun x hx => by obtain ⟨k, hk⟩ := List.getElem?_of_mem hx; exact h2 k x hk
  exact ⟨h0, h1, fun x hx => RSu_of (hok x hx) (hr x hx), fun x hx => (okS_of (hok x hx)).2.2.2.2.1⟩
theorem encS_by {ep : Int} {l : List SumC} (hv : validS ep l = true) (hep : ep < 9223372036854775808) (hr : ∀ x ∈ l, x.Rng) : Bytes (encS ep l) := by
  obtain ⟨h0, h1, h2, _⟩ := encS_rng hv hep hr
  exact by_app (by_app (uintL_by (by omega)) (uintL_by (by omega))) (flat_by fun x hx => encSu_by (h2 x hx))
theorem encS_len {ep : Int} {l : List SumC} (hv : validS ep l = true) (hep : ep < 9223372036854775808) (hr : ∀ x ∈ l, x.Rng) : (encS ep l).length ≤ 100000000 := by
  obtain ⟨h0, h1, h2, _⟩ := encS_rng hv hep hr
  have a1 := uintL_len (n := ep) (by omega)
  have a2 := uintL_len (n := (l.length : Int)) (by omega)
  have a3 := flat_le (f := encSu) (m := 28000) fun x hx => encSu_len (h2 x hx)
  unfold encS
  simp only [List.length_append]; omega
theorem decS_nil : decS [] = (0, [], 11) := by decide
end Go.Proofs.Ytomgdkfoinojiaa

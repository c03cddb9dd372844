/-
  The texts of a graph, and that a valid graph is told by its lines: plain Lean. No condition.
-/
import Derived.Lib.ItoaNum
import Derived.Lib.Join
import Derived.Test.YtjegncmkebbdfaaGreatDoorGrpI
set_option linter.unusedSimpArgs false
set_option linter.unusedVariables false
namespace Go.Proofs.YtjegncmkebbdfaaGreatDoor
/-! ### Numerals -/
theorem dd_mem (u : Nat) : ∀ b ∈ Lib.decDigits u, 48 ≤ b.toNat ∧ b.toNat ≤ 57 := by
  induction u using Nat.strongRecOn with
  | _ u ih =>
    intro b hb
    rw [Lib.decDigits] at hb
    split at hb
    · rw [List.mem_singleton] at hb
      subst hb
      rw [UInt8.toNat_ofNat']
      omega
    · rw [List.mem_append] at hb
      rcases hb with hb | hb
      · exact ih _ (by omega) b hb
      · rw [List.mem_singleton] at hb
        subst hb
        rw [UInt8.toNat_ofNat']
        omega
theorem dd_ne (u : Nat) : Lib.decDigits u ≠ [] := by
  rw [Lib.decDigits]
  split
  · simp
  · simp
def valDg (l : List UInt8) : Nat := l.foldl (fun a b => a * 10 + (b.toNat - 48)) 0
theorem valDg_dd (u : Nat) : valDg (Lib.decDigits u) = u := by
  induction u using Nat.strongRecOn with
  | _ u ih =>
    rw [Lib.decDigits]
    split
    · unfold valDg
      simp only [List.foldl_cons, List.foldl_nil, UInt8.toNat_ofNat']
      omega
    · have h := ih (u / 10) (by omega)
      unfold valDg at h ⊢
      rw [List.foldl_append, h]
      simp only [List.foldl_cons, List.foldl_nil, UInt8.toNat_ofNat']
      omega
theorem dd_inj {u v : Nat} (h : Lib.decDigits u = Lib.decDigits v) : u = v := by
  rw [← valDg_dd u, h, valDg_dd]
theorem itoa_mem {n : Int} {b : UInt8} (hb : b ∈ Lib.itoa n) : b = 45 ∨ (48 ≤ b.toNat ∧ b.toNat ≤ 57) := by
  unfold Lib.itoa at hb
  split at hb
  · rcases List.mem_cons.1 hb with h | h
    · exact .inl h
    · exact .inr (dd_mem _ b h)
  · exact .inr (dd_mem _ b hb)
theorem itoa_ne (n : Int) : Lib.itoa n ≠ [] := by
  unfold Lib.itoa
  split
  · simp
  · exact dd_ne _
theorem itoa_inj {n m : Int} (h : Lib.itoa n = Lib.itoa m) : n = m := by
  unfold Lib.itoa at h
  have key : ∀ (x y : Nat), (45 : UInt8) :: Lib.decDigits x ≠ Lib.decDigits y := fun x y he => by
    have h1 : (45 : UInt8) ∈ Lib.decDigits y := by rw [← he]; exact List.mem_cons_self
    have := (dd_mem y 45 h1).1
    exact absurd this (by decide)
  split at h <;> split at h
  · injection h with _ h
    have := dd_inj h
    omega
  · exact absurd h (key _ _)
  · exact absurd h.symm (key _ _)
  · have := dd_inj h
    omega
/-! ### Parts between separators -/
theorem cut_at {c : UInt8} : ∀ {a b r s : List UInt8}, c ∉ a → c ∉ b → a ++ c :: r = b ++ c :: s → a = b ∧ r = s
  | [], [], r, s, _, _, h => by injection h with _ h; exact ⟨rfl, h⟩
  | [], y :: b, r, s, _, hb, h => by injection h with h _; exact absurd (by rw [h]; exact List.mem_cons_self) hb
  | x :: a, [], r, s, ha, _, h => by injection h with h _; exact absurd (by rw [← h]; exact List.mem_cons_self) ha
  | x :: a, y :: b, r, s, ha, hb, h => by
    injection h with h1 h2
    subst h1
    obtain ⟨h3, h4⟩ := cut_at (fun hm => ha (List.mem_cons_of_mem _ hm)) (fun hm => hb (List.mem_cons_of_mem _ hm)) h2
    exact ⟨by rw [h3], h4⟩
/-! ### Texts -/
def nameB (x : IDE) : List UInt8 := 109 :: (Lib.itoa x.machine ++ 58 :: Lib.itoa x.serial)
def textB (v : ValE) : List UInt8 := if v.kind = 1 then Lib.itoa v.int else if v.kind = 2 then nameB v.ref else [110, 105, 108]
def kindNmB (k : Int) : List UInt8 := if k = 0 then [114, 101, 99, 111, 114, 100] else if k = 1 then [97, 99, 116, 111, 114] else if k = 2 then [119, 101, 97, 107] else if k = 3 then [115, 116, 117, 98] else if k = 4 then [102, 111, 114, 119, 97, 114, 100] else []
def lineB (n : NodeC) : List UInt8 := nameB n.id ++ 32 :: (kindNmB n.kind ++ 32 :: (Lib.itoa n.clas ++ (if n.kind = 3 then [] else 32 :: 40 :: (Lib.join (n.fields.map textB) [44, 32] ++ [41]))))
def linesB (L : List NodeC) : List (List UInt8) := if valid16B L then L.map lineB else []
theorem nameB_mem {x : IDE} {b : UInt8} (h : b ∈ nameB x) : b = 109 ∨ b = 58 ∨ b = 45 ∨ (48 ≤ b.toNat ∧ b.toNat ≤ 57) := by
  unfold nameB at h
  rcases List.mem_cons.1 h with h | h
  · exact .inl h
  · rcases List.mem_append.1 h with h | h
    · exact .inr (.inr (itoa_mem h))
    · rcases List.mem_cons.1 h with h | h
      · exact .inr (.inl h)
      · exact .inr (.inr (itoa_mem h))
theorem nameB_inj {x y : IDE} (h : nameB x = nameB y) : x = y := by
  unfold nameB at h
  injection h with _ h
  have no : ∀ n : Int, (58 : UInt8) ∉ Lib.itoa n := fun n hm => by
    rcases itoa_mem hm with h | h
    · exact absurd h (by decide)
    · exact absurd h.2 (by decide)
  obtain ⟨h1, h2⟩ := cut_at (no _) (no _) h
  exact IDE.ext (itoa_inj h1) (itoa_inj h2)
theorem textB_mem {v : ValE} {b : UInt8} (h : b ∈ textB v) : b ≠ 44 ∧ b ≠ 41 := by
  have key : ∀ c : UInt8, (c = 109 ∨ c = 58 ∨ c = 45 ∨ (48 ≤ c.toNat ∧ c.toNat ≤ 57)) → c ≠ 44 ∧ c ≠ 41 := fun c hc => by
    rcases hc with rfl | rfl | rfl | hc
    · decide
    · decide
    · decide
    · exact ⟨fun e => by subst e; exact absurd hc.1 (by decide), fun e => by subst e; exact absurd hc.1 (by decide)⟩
  unfold textB at h
  split at h
  · rcases itoa_mem h with h | h
    · exact key _ (.inr (.inr (.inl h)))
    · exact key _ (.inr (.inr (.inr h)))
  · split at h
    · exact key _ (nameB_mem h)
    · simp only [List.mem_cons, List.not_mem_nil, or_false] at h
      rcases h with rfl | rfl | rfl <;> decide
theorem textB_ne (v : ValE) : textB v ≠ [] := by
  unfold textB
  split
  · exact itoa_ne _
  · split
    · unfold nameB; simp
    · simp
theorem textB_inj {u v : ValE} (hu : validValB u = true) (hv : validValB v = true) (h : textB u = textB v) : u = v := by
  have hI : ∀ (n : Int) (x : IDE), Lib.itoa n ≠ nameB x := fun n x he => by
    have h1 : (109 : UInt8) ∈ Lib.itoa n := by rw [he]; unfold nameB; exact List.mem_cons_self
    rcases itoa_mem h1 with h | h
    · exact absurd h (by decide)
    · exact absurd h.2 (by decide)
  have hN : ∀ (n : Int), Lib.itoa n ≠ [110, 105, 108] := fun n he => by
    have h1 : (110 : UInt8) ∈ Lib.itoa n := by rw [he]; exact List.mem_cons_self
    rcases itoa_mem h1 with h | h
    · exact absurd h (by decide)
    · exact absurd h.2 (by decide)
  have hM : ∀ (x : IDE), nameB x ≠ [110, 105, 108] := fun x he => by
    unfold nameB at he
    injection he with he _
    exact absurd he (by decide)
  have key : ∀ w : ValE, validValB w = true → (w.kind = 0 ∧ w = ⟨0, 0, 0, 0⟩) ∨ (w.kind = 1 ∧ w.ref = ⟨0, 0⟩) ∨ (w.kind = 2 ∧ w.int = 0) := fun w hw => by
    unfold validValB at hw
    split at hw
    · next h0 => exact .inl ⟨h0, ValE.beq_iff.1 hw⟩
    · split at hw
      · next h1 => rw [Bool.and_eq_true] at hw; exact .inr (.inl ⟨h1, of_decide_eq_true hw.1⟩)
      · split at hw
        · next h2 => rw [Bool.and_eq_true] at hw; exact .inr (.inr ⟨h2, of_decide_eq_true hw.1⟩)
        · cases hw
  have ext : ∀ a b : ValE, a.kind = b.kind → a.int = b.int → a.ref = b.ref → a = b := fun a b h1 h2 h3 => by
    cases a; cases b
    simp only [ValE.ref, IDE.mk.injEq] at h1 h2 h3
    obtain ⟨h3, h4⟩ := h3
    subst h1 h2 h3 h4
    rfl
  unfold textB at h
  rcases key u hu with ⟨a, b⟩ | ⟨a, b⟩ | ⟨a, b⟩ <;> rcases key v hv with ⟨a', b'⟩ | ⟨a', b'⟩ | ⟨a', b'⟩ <;> simp only [a, a'] at h
  · rw [b, b']
  · exact absurd h.symm (by simpa using hN _)
  · exact absurd h.symm (by simpa using hM _)
  · exact absurd h (by simpa using hN _)
  · exact ext _ _ (by rw [a, a']) (itoa_inj (by simpa using h)) (by rw [b, b'])
  · exact absurd h (by simpa using hI _ _)
  · exact absurd h (by simpa using hM _)
  · exact absurd h.symm (by simpa using hI _ _)
  · exact ext _ _ (by rw [a, a']) (by rw [b, b']) (nameB_inj (by simpa using h))
/-- What stands between ", " and ", ": each text once. -/
theorem tail_inj : ∀ {r s : List (List UInt8)}, (∀ x ∈ r, (44 : UInt8) ∉ x) → (∀ x ∈ s, (44 : UInt8) ∉ x) → Lib.joinTail [44, 32] r = Lib.joinTail [44, 32] s → r = s
  | [], [], _, _, _ => rfl
  | [], y :: s, _, _, h => by simp [Lib.joinTail] at h
  | x :: r, [], _, _, h => by simp [Lib.joinTail] at h
  | x :: r, y :: s, hr, hs, h => by
    simp only [Lib.joinTail, List.map_cons, List.flatten_cons, List.cons_append, List.nil_append, List.append_assoc] at h
    injection h with _ h
    injection h with _ h
    change x ++ Lib.joinTail [44, 32] r = y ++ Lib.joinTail [44, 32] s at h
    have hx := hr x List.mem_cons_self
    have hy := hs y List.mem_cons_self
    have split : ∀ t : List (List UInt8), Lib.joinTail [44, 32] t = [] ∨ ∃ u, Lib.joinTail [44, 32] t = 44 :: u := fun t => by
      cases t with
      | nil => exact .inl rfl
      | cons a t => exact .inr ⟨_, rfl⟩
    have hxy : x = y ∧ Lib.joinTail [44, 32] r = Lib.joinTail [44, 32] s := by
      rcases split r with e | ⟨u, e⟩ <;> rcases split s with e' | ⟨u', e'⟩ <;> rw [e, e'] at h
      · simp only [List.append_nil] at h
        exact ⟨h, by rw [e, e']⟩
      · simp only [List.append_nil] at h
        exact absurd (by rw [h]; simp) hx
      · simp only [List.append_nil] at h
        exact absurd (by rw [← h]; simp) hy
      · obtain ⟨h1, h2⟩ := cut_at hx hy h
        exact ⟨h1, by rw [e, e', h2]⟩
    rw [hxy.1, tail_inj (fun a ha => hr a (List.mem_cons_of_mem _ ha)) (fun a ha => hs a (List.mem_cons_of_mem _ ha)) hxy.2]
theorem join_inj {r s : List (List UInt8)} (hr : ∀ x ∈ r, (44 : UInt8) ∉ x ∧ x ≠ []) (hs : ∀ x ∈ s, (44 : UInt8) ∉ x ∧ x ≠ []) (h : Lib.join r [44, 32] = Lib.join s [44, 32]) : r = s := by
  cases r with
  | nil =>
    cases s with
    | nil => rfl
    | cons y s =>
      rw [Lib.join_nil, Lib.join_cons] at h
      have := (hs y List.mem_cons_self).2
      exact absurd (List.append_eq_nil_iff.1 h.symm).1 this
  | cons x r =>
    cases s with
    | nil =>
      rw [Lib.join_nil, Lib.join_cons] at h
      exact absurd (List.append_eq_nil_iff.1 h).1 (hr x List.mem_cons_self).2
    | cons y s =>
      rw [Lib.join_cons, Lib.join_cons] at h
      refine tail_inj (fun a ha => (hr a ha).1) (fun a ha => (hs a ha).1) ?_
      have e : ∀ (z : List UInt8) (t : List (List UInt8)), Lib.joinTail [44, 32] (z :: t) = 44 :: 32 :: (z ++ Lib.joinTail [44, 32] t) := fun z t => by simp [Lib.joinTail]
      rw [e, e, h]
theorem kindNm_mem {k : Int} {b : UInt8} (h : b ∈ kindNmB k) : b ≠ 32 := by
  rintro rfl
  unfold kindNmB at h
  repeat' split at h
  all_goals exact absurd h (by decide)
theorem kindNm_inj {j k : Int} (hj : j = 0 ∨ j = 1 ∨ j = 2 ∨ j = 3) (hk : k = 0 ∨ k = 1 ∨ k = 2 ∨ k = 3) (h : kindNmB j = kindNmB k) : j = k := by
  rcases hj with rfl | rfl | rfl | rfl <;> rcases hk with rfl | rfl | rfl | rfl <;> first | rfl | exact absurd h (by decide)
theorem validNode_kind {n : NodeC} (h : validNodeB n = true) : (n.kind = 0 ∨ n.kind = 1 ∨ n.kind = 2 ∨ n.kind = 3) ∧ (n.kind = 3 → n.fields = []) ∧ ∀ v ∈ n.fields, validValB v = true := by
  unfold validNodeB kindB at h
  simp only [Bool.and_eq_true] at h
  obtain ⟨⟨h1, _⟩, h2⟩ := h
  refine ⟨?_, fun h3 => ?_, List.all_eq_true.1 h1⟩
  · split at h2
    · omega
    · split at h2
      · omega
      · split at h2
        · omega
        · cases h2
  · rw [if_neg (by omega), if_neg (by omega), if_pos h3] at h2
    exact List.length_eq_zero_iff.1 (of_decide_eq_true h2).2.2
theorem lineB_inj {m n : NodeC} (hm : validNodeB m = true) (hn : validNodeB n = true) (h : lineB m = lineB n) : m = n := by
  obtain ⟨m1, m2, m3⟩ := validNode_kind hm
  obtain ⟨n1, n2, n3⟩ := validNode_kind hn
  have noN : ∀ x : IDE, (32 : UInt8) ∉ nameB x := fun x hx => by
    rcases nameB_mem hx with h | h | h | h
    · exact absurd h (by decide)
    · exact absurd h (by decide)
    · exact absurd h (by decide)
    · exact absurd h.1 (by decide)
  have noI : ∀ x : Int, (32 : UInt8) ∉ Lib.itoa x := fun x hx => by
    rcases itoa_mem hx with h | h
    · exact absurd h (by decide)
    · exact absurd h.1 (by decide)
  unfold lineB at h
  obtain ⟨h1, h⟩ := cut_at (noN _) (noN _) h
  obtain ⟨h2, h⟩ := cut_at (fun hh => kindNm_mem hh rfl) (fun hh => kindNm_mem hh rfl) h
  have e1 := nameB_inj h1
  have e2 := kindNm_inj m1 n1 h2
  have ext : m.clas = n.clas → m.fields = n.fields → m = n := fun h3 h4 => by
    cases m; cases n
    simp only [NodeC.id, IDE.mk.injEq] at e1 e2 h3 h4
    obtain ⟨e1, e3⟩ := e1
    subst e1 e3 e2 h3 h4
    rfl
  by_cases hk : m.kind = 3
  · rw [if_pos hk, if_pos (e2 ▸ hk), List.append_nil, List.append_nil] at h
    exact ext (itoa_inj h) (by rw [m2 hk, n2 (e2 ▸ hk)])
  · rw [if_neg hk, if_neg (fun hh => hk (e2.trans hh))] at h
    obtain ⟨h3, h⟩ := cut_at (noI _) (noI _) h
    injection h with _ h
    have h4 := List.append_cancel_right h
    have ok : ∀ l : List ValE, ∀ x ∈ l.map textB, (44 : UInt8) ∉ x ∧ x ≠ [] := fun l x hx => by
      obtain ⟨v, _, rfl⟩ := List.mem_map.1 hx
      exact ⟨fun hh => (textB_mem hh).1 rfl, textB_ne v⟩
    have h5 := join_inj (ok _) (ok _) h4
    refine ext (itoa_inj h3) ?_
    have map_inj : ∀ (a b : List ValE), (∀ v ∈ a, validValB v = true) → (∀ v ∈ b, validValB v = true) → a.map textB = b.map textB → a = b := fun a => by
      induction a with
      | nil => intro b _ _ h; cases b with
        | nil => rfl
        | cons y b => cases h
      | cons x a ih =>
        intro b ha hb h
        cases b with
        | nil => cases h
        | cons y b =>
          simp only [List.map_cons, List.cons.injEq] at h
          rw [textB_inj (ha x List.mem_cons_self) (hb y List.mem_cons_self) h.1, ih b (fun v hv => ha v (List.mem_cons_of_mem _ hv)) (fun v hv => hb v (List.mem_cons_of_mem _ hv)) h.2]
    exact map_inj _ _ m3 n3 h5
theorem valid16_node {L : List NodeC} (h : valid16B L = true) : ∀ n ∈ L, validNodeB n = true := fun n hn => by
  obtain ⟨k, hk⟩ := List.getElem?_of_mem hn
  have hlt := (List.getElem?_eq_some_iff.1 hk).1
  have := List.all_eq_true.1 h k (List.mem_range.2 hlt)
  unfold okAtB at this
  rw [hk] at this
  simp only [Bool.and_eq_true] at this
  exact this.1
theorem linesB_inj {L M : List NodeC} (hL : valid16B L = true) (hM : valid16B M = true) (h : linesB L = linesB M) : L = M := by
  unfold linesB at h
  rw [if_pos hL, if_pos hM] at h
  have key : ∀ (a b : List NodeC), (∀ v ∈ a, validNodeB v = true) → (∀ v ∈ b, validNodeB v = true) → a.map lineB = b.map lineB → a = b := fun a => by
    induction a with
    | nil => intro b _ _ h; cases b with
      | nil => rfl
      | cons y b => cases h
    | cons x a ih =>
      intro b ha hb h
      cases b with
      | nil => cases h
      | cons y b =>
        simp only [List.map_cons, List.cons.injEq] at h
        rw [lineB_inj (ha x List.mem_cons_self) (hb y List.mem_cons_self) h.1, ih b (fun v hv => ha v (List.mem_cons_of_mem _ hv)) (fun v hv => hb v (List.mem_cons_of_mem _ hv)) h.2]
  exact key _ _ (valid16_node hL) (valid16_node hM) h
end Go.Proofs.YtjegncmkebbdfaaGreatDoor

/-
  Small texts of this seat, put into one. Conditions stand in each theorem.
-/
import Derived.Lib.ItoaNum
import Derived.Lib.Join
import Derived.Test.YtpkfenlfgdbkcaaGreatDoorGrpI
import Derived.Test.YtpkfenlfgdbkcaaGreatDoorGrp31
import Derived.Test.YtpkfenlfgdbkcaaGreatDoorF16Union
import Derived.Test.YtpkfenlfgdbkcaaGreatDoorGrp30
import Derived.Maps.RangeRun
import Derived.Maps.RangeWalk
import Derived.Sort.MapsRangeIn
import Derived.RangeFuncSeq
set_option linter.unusedSimpArgs false
set_option linter.unusedVariables false
namespace Go.Proofs.YtpkfenlfgdbkcaaGreatDoor
/-! ### Numerals -/
theorem dd_mem (u : Nat) : ∀ b ∈ Lib.decDigits u, 48 ≤ b.toNat ∧ b.toNat ≤ 57 := by
  induction u using Nat.strongRecOn with
  | _ u ih =>
    intro b hb
    rw [Lib.decDigits] at hb
    split at hb
    · rw [List.mem_singleton] at hb
      subst hb
      rw [UInt8.toNat_ofNat']
      omega
    · rw [List.mem_append] at hb
      rcases hb with hb | hb
      · exact ih _ (by omega) b hb
      · rw [List.mem_singleton] at hb
        subst hb
        rw [UInt8.toNat_ofNat']
        omega
theorem dd_ne (u : Nat) : Lib.decDigits u ≠ [] := by
  rw [Lib.decDigits]
  split
  · simp
  · simp
def valDg (l : List UInt8) : Nat := l.foldl (fun a b => a * 10 + (b.toNat - 48)) 0
theorem valDg_dd (u : Nat) : valDg (Lib.decDigits u) = u := by
  induction u using Nat.strongRecOn with
  | _ u ih =>
    rw [Lib.decDigits]
    split
    · unfold valDg
      simp only [List.foldl_cons, List.foldl_nil, UInt8.toNat_ofNat']
      omega
    · have h := ih (u / 10) (by omega)
      unfold valDg at h ⊢
      rw [List.foldl_append, h]
      simp only [List.foldl_cons, List.foldl_nil, UInt8.toNat_ofNat']
      omega
theorem dd_inj {u v : Nat} (h : Lib.decDigits u = Lib.decDigits v) : u = v := by
  rw [← valDg_dd u, h, valDg_dd]
theorem itoa_mem {n : Int} {b : UInt8} (hb : b ∈ Lib.itoa n) : b = 45 ∨ (48 ≤ b.toNat ∧ b.toNat ≤ 57) := by
  unfold Lib.itoa at hb
  split at hb
  · rcases List.mem_cons.1 hb with h | h
    · exact .inl h
    · exact .inr (dd_mem _ b h)
  · exact .inr (dd_mem _ b hb)
theorem itoa_ne (n : Int) : Lib.itoa n ≠ [] := by
  unfold Lib.itoa
  split
  · simp
  · exact dd_ne _
theorem itoa_inj {n m : Int} (h : Lib.itoa n = Lib.itoa m) : n = m := by
  unfold Lib.itoa at h
  have key : ∀ (x y : Nat), (45 : UInt8) :: Lib.decDigits x ≠ Lib.decDigits y := fun x y he => by
    have h1 : (45 : UInt8) ∈ Lib.decDigits y := by rw [← he]; exact List.mem_cons_self
    have := (dd_mem y 45 h1).1
    exact absurd this (by decide)
  split at h <;> split at h
  · injection h with _ h
    have := dd_inj h
    omega
  · exact absurd h (key _ _)
  · exact absurd h.symm (key _ _)
  · have := dd_inj h
    omega
/-! ### Parts between separators -/
theorem cut_at {c : UInt8} : ∀ {a b r s : List UInt8}, c ∉ a → c ∉ b → a ++ c :: r = b ++ c :: s → a = b ∧ r = s
  | [], [], r, s, _, _, h => by injection h with _ h; exact ⟨rfl, h⟩
  | [], y :: b, r, s, _, hb, h => by injection h with h _; exact absurd (by rw [h]; exact List.mem_cons_self) hb
  | x :: a, [], r, s, ha, _, h => by injection h with h _; exact absurd (by rw [← h]; exact List.mem_cons_self) ha
  | x :: a, y :: b, r, s, ha, hb, h => by
    injection h with h1 h2
    subst h1
    obtain ⟨h3, h4⟩ := cut_at (fun hm => ha (List.mem_cons_of_mem _ hm)) (fun hm => hb (List.mem_cons_of_mem _ hm)) h2
    exact ⟨by rw [h3], h4⟩
/-! ### Texts -/
def nameB (x : IDE) : List UInt8 := 109 :: (Lib.itoa x.machine ++ 58 :: Lib.itoa x.serial)
def textB (v : ValE) : List UInt8 := if v.kind = 1 then Lib.itoa v.int else if v.kind = 2 then nameB v.ref else [110, 105, 108]
def kindNmB (k : Int) : List UInt8 := if k = 0 then [114, 101, 99, 111, 114, 100] else if k = 1 then [97, 99, 116, 111, 114] else if k = 2 then [119, 101, 97, 107] else if k = 3 then [115, 116, 117, 98] else if k = 4 then [102, 111, 114, 119, 97, 114, 100] else []
def lineB (n : NodeC) : List UInt8 := nameB n.id ++ 32 :: (kindNmB n.kind ++ 32 :: (Lib.itoa n.clas ++ (if n.kind = 3 then [] else 32 :: 40 :: (Lib.join (n.fields.map textB) [44, 32] ++ [41]))))
def linesB (L : List NodeC) : List (List UInt8) := if valid16B L then L.map lineB else []
theorem nameB_mem {x : IDE} {b : UInt8} (h : b ∈ nameB x) : b = 109 ∨ b = 58 ∨ b = 45 ∨ (48 ≤ b.toNat ∧ b.toNat ≤ 57) := by
  unfold nameB at h
  rcases List.mem_cons.1 h with h | h
  · exact .inl h
  · rcases List.mem_append.1 h with h | h
    · exact .inr (.inr (itoa_mem h))
    · rcases List.mem_cons.1 h with h | h
      · exact .inr (.inl h)
      · exact .inr (.inr (itoa_mem h))
theorem nameB_inj {x y : IDE} (h : nameB x = nameB y) : x = y := by
  unfold nameB at h
  injection h with _ h
  have no : ∀ n : Int, (58 : UInt8) ∉ Lib.itoa n := fun n hm => by
    rcases itoa_mem hm with h | h
    · exact absurd h (by decide)
    · exact absurd h.2 (by decide)
  obtain ⟨h1, h2⟩ := cut_at (no _) (no _) h
  exact IDE.ext (itoa_inj h1) (itoa_inj h2)
theorem textB_mem {v : ValE} {b : UInt8} (h : b ∈ textB v) : b ≠ 44 ∧ b ≠ 41 := by
  have key : ∀ c : UInt8, (c = 109 ∨ c = 58 ∨ c = 45 ∨ (48 ≤ c.toNat ∧ c.toNat ≤ 57)) → c ≠ 44 ∧ c ≠ 41 := fun c hc => by
    rcases hc with rfl | rfl | rfl | hc
    · decide
    · decide
    · decide
    · exact ⟨fun e => by subst e; exact absurd hc.1 (by decide), fun e => by subst e; exact absurd hc.1 (by decide)⟩
  unfold textB at h
  split at h
  · rcases itoa_mem h with h | h
    · exact key _ (.inr (.inr (.inl h)))
    · exact key _ (.inr (.inr (.inr h)))
  · split at h
    · exact key _ (nameB_mem h)
    · simp only [List.mem_cons, List.not_mem_nil, or_false] at h
      rcases h with rfl | rfl | rfl <;> decide
theorem textB_ne (v : ValE) : textB v ≠ [] := by
  unfold textB
  split
  · exact itoa_ne _
  · split
    · unfold nameB; simp
    · simp
theorem textB_inj {u v : ValE} (hu : validValB u = true) (hv : validValB v = true) (h : textB u = textB v) : u = v := by
  have hI : ∀ (n : Int) (x : IDE), Lib.itoa n ≠ nameB x := fun n x he => by
    have h1 : (109 : UInt8) ∈ Lib.itoa n := by rw [he]; unfold nameB; exact List.mem_cons_self
    rcases itoa_mem h1 with h | h
    · exact absurd h (by decide)
    · exact absurd h.2 (by decide)
  have hN : ∀ (n : Int), Lib.itoa n ≠ [110, 105, 108] := fun n he => by
    have h1 : (110 : UInt8) ∈ Lib.itoa n := by rw [he]; exact List.mem_cons_self
    rcases itoa_mem h1 with h | h
    · exact absurd h (by decide)
    · exact absurd h.2 (by decide)
  have hM : ∀ (x : IDE), nameB x ≠ [110, 105, 108] := fun x he => by
    unfold nameB at he
    injection he with he _
    exact absurd he (by decide)
  have key : ∀ w : ValE, validValB w = true → (w.kind = 0 ∧ w = ⟨0, 0, 0, 0⟩) ∨ (w.kind = 1 ∧ w.ref = ⟨0, 0⟩) ∨ (w.kind = 2 ∧ w.int = 0) := fun w hw => by
    unfold validValB at hw
    split at hw
    · next h0 => exact .inl ⟨h0, ValE.beq_iff.1 hw⟩
    · split at hw
      · next h1 => rw [Bool.and_eq_true] at hw; exact .inr (.inl ⟨h1, of_decide_eq_true hw.1⟩)
      · split at hw
        · next h2 => rw [Bool.and_eq_true] at hw; exact .inr (.inr ⟨h2, of_decide_eq_true hw.1⟩)
        · cases hw
  have ext : ∀ a b : ValE, a.kind = b.kind → a.int = b.int → a.ref = b.ref → a = b := fun a b h1 h2 h3 => by
    cases a; cases b
    simp only [ValE.ref, IDE.mk.injEq] at h1 h2 h3
    obtain ⟨h3, h4⟩ := h3
    subst h1 h2 h3 h4
    rfl
  unfold textB at h
  rcases key u hu with ⟨a, b⟩ | ⟨a, b⟩ | ⟨a, b⟩ <;> rcases key v hv with ⟨a', b'⟩ | ⟨a', b'⟩ | ⟨a', b'⟩ <;> simp only [a, a'] at h
  · rw [b, b']
  · exact absurd h.symm (by simpa using hN _)
  · exact absurd h.symm (by simpa using hM _)
  · exact absurd h (by simpa using hN _)
  · exact ext _ _ (by rw [a, a']) (itoa_inj (by simpa using h)) (by rw [b, b'])
  · exact absurd h (by simpa using hI _ _)
  · exact absurd h (by simpa using hM _)
  · exact absurd h.symm (by simpa using hI _ _)
  · exact ext _ _ (by rw [a, a']) (by rw [b, b']) (nameB_inj (by simpa using h))
/-- What stands between ", " and ", ": each text once. -/
theorem tail_inj : ∀ {r s : List (List UInt8)}, (∀ x ∈ r, (44 : UInt8) ∉ x) → (∀ x ∈ s, (44 : UInt8) ∉ x) → Lib.joinTail [44, 32] r = Lib.joinTail [44, 32] s → r = s
  | [], [], _, _, _ => rfl
  | [], y :: s, _, _, h => by simp [Lib.joinTail] at h
  | x :: r, [], _, _, h => by simp [Lib.joinTail] at h
  | x :: r, y :: s, hr, hs, h => by
    simp only [Lib.joinTail, List.map_cons, List.flatten_cons, List.cons_append, List.nil_append, List.append_assoc] at h
    injection h with _ h
    injection h with _ h
    change x ++ Lib.joinTail [44, 32] r = y ++ Lib.joinTail [44, 32] s at h
    have hx := hr x List.mem_cons_self
    have hy := hs y List.mem_cons_self
    have split : ∀ t : List (List UInt8), Lib.joinTail [44, 32] t = [] ∨ ∃ u, Lib.joinTail [44, 32] t = 44 :: u := fun t => by
      cases t with
      | nil => exact .inl rfl
      | cons a t => exact .inr ⟨_, rfl⟩
    have hxy : x = y ∧ Lib.joinTail [44, 32] r = Lib.joinTail [44, 32] s := by
      rcases split r with e | ⟨u, e⟩ <;> rcases split s with e' | ⟨u', e'⟩ <;> rw [e, e'] at h
      · simp only [List.append_nil] at h
        exact ⟨h, by rw [e, e']⟩
      · simp only [List.append_nil] at h
        exact absurd (by rw [h]; simp) hx
      · simp only [List.append_nil] at h
        exact absurd (by rw [← h]; simp) hy
      · obtain ⟨h1, h2⟩ := cut_at hx hy h
        exact ⟨h1, by rw [e, e', h2]⟩
    rw [hxy.1, tail_inj (fun a ha => hr a (List.mem_cons_of_mem _ ha)) (fun a ha => hs a (List.mem_cons_of_mem _ ha)) hxy.2]
theorem join_inj {r s : List (List UInt8)} (hr : ∀ x ∈ r, (44 : UInt8) ∉ x ∧ x ≠ []) (hs : ∀ x ∈ s, (44 : UInt8) ∉ x ∧ x ≠ []) (h : Lib.join r [44, 32] = Lib.join s [44, 32]) : r = s := by
  cases r with
  | nil =>
    cases s with
    | nil => rfl
    | cons y s =>
      rw [Lib.join_nil, Lib.join_cons] at h
      have := (hs y List.mem_cons_self).2
      exact absurd (List.append_eq_nil_iff.1 h.symm).1 this
  | cons x r =>
    cases s with
    | nil =>
      rw [Lib.join_nil, Lib.join_cons] at h
      exact absurd (List.append_eq_nil_iff.1 h).1 (hr x List.mem_cons_self).2
    | cons y s =>
      rw [Lib.join_cons, Lib.join_cons] at h
      refine tail_inj (fun a ha => (hr a ha).1) (fun a ha => (hs a ha).1) ?_
      have e : ∀ (z : List UInt8) (t : List (List UInt8)), Lib.joinTail [44, 32] (z :: t) = 44 :: 32 :: (z ++ Lib.joinTail [44, 32] t) := fun z t => by simp [Lib.joinTail]
      rw [e, e, h]
theorem kindNm_mem {k : Int} {b : UInt8} (h : b ∈ kindNmB k) : b ≠ 32 := by
  rintro rfl
  unfold kindNmB at h
  repeat' split at h
  all_goals exact absurd h (by decide)
theorem kindNm_inj {j k : Int} (hj : j = 0 ∨ j = 1 ∨ j = 2 ∨ j = 3) (hk : k = 0 ∨ k = 1 ∨ k = 2 ∨ k = 3) (h : kindNmB j = kindNmB k) : j = k := by
  rcases hj with rfl | rfl | rfl | rfl <;> rcases hk with rfl | rfl | rfl | rfl <;> first | rfl | exact absurd h (by decide)
theorem validNode_kind {n : NodeC} (h : validNodeB n = true) : (n.kind = 0 ∨ n.kind = 1 ∨ n.kind = 2 ∨ n.kind = 3) ∧ (n.kind = 3 → n.fields = []) ∧ ∀ v ∈ n.fields, validValB v = true := by
  unfold validNodeB kindB at h
  simp only [Bool.and_eq_true] at h
  obtain ⟨⟨h1, _⟩, h2⟩ := h
  refine ⟨?_, fun h3 => ?_, List.all_eq_true.1 h1⟩
  · split at h2
    · omega
    · split at h2
      · omega
      · split at h2
        · omega
        · cases h2
  · rw [if_neg (by omega), if_neg (by omega), if_pos h3] at h2
    exact List.length_eq_zero_iff.1 (of_decide_eq_true h2).2.2
theorem lineB_inj {m n : NodeC} (hm : validNodeB m = true) (hn : validNodeB n = true) (h : lineB m = lineB n) : m = n := by
  obtain ⟨m1, m2, m3⟩ := validNode_kind hm
  obtain ⟨n1, n2, n3⟩ := validNode_kind hn
  have noN : ∀ x : IDE, (32 : UInt8) ∉ nameB x := fun x hx => by
    rcases nameB_mem hx with h | h | h | h
    · exact absurd h (by decide)
    · exact absurd h (by decide)
    · exact absurd h (by decide)
    · exact absurd h.1 (by decide)
  have noI : ∀ x : Int, (32 : UInt8) ∉ Lib.itoa x := fun x hx => by
    rcases itoa_mem hx with h | h
    · exact absurd h (by decide)
    · exact absurd h.1 (by decide)
  unfold lineB at h
  obtain ⟨h1, h⟩ := cut_at (noN _) (noN _) h
  obtain ⟨h2, h⟩ := cut_at (fun hh => kindNm_mem hh rfl) (fun hh => kindNm_mem hh rfl) h
  have e1 := nameB_inj h1
  have e2 := kindNm_inj m1 n1 h2
  have ext : m.clas = n.clas → m.fields = n.fields → m = n := fun h3 h4 => by
    cases m; cases n
    simp only [NodeC.id, IDE.mk.injEq] at e1 e2 h3 h4
    obtain ⟨e1, e3⟩ := e1
    subst e1 e3 e2 h3 h4
    rfl
  by_cases hk : m.kind = 3
  · rw [if_pos hk, if_pos (e2 ▸ hk), List.append_nil, List.append_nil] at h
    exact ext (itoa_inj h) (by rw [m2 hk, n2 (e2 ▸ hk)])
  · rw [if_neg hk, if_neg (fun hh => hk (e2.trans hh))] at h
    obtain ⟨h3, h⟩ := cut_at (noI _) (noI _) h
    injection h with _ h
    have h4 := List.append_cancel_right h
    have ok : ∀ l : List ValE, ∀ x ∈ l.map textB, (44 : UInt8) ∉ x ∧ x ≠ [] := fun l x hx => by
      obtain ⟨v, _, rfl⟩ := List.mem_map.1 hx
      exact ⟨fun hh => (textB_mem hh).1 rfl, textB_ne v⟩
    have h5 := join_inj (ok _) (ok _) h4
    refine ext (itoa_inj h3) ?_
    have map_inj : ∀ (a b : List ValE), (∀ v ∈ a, validValB v = true) → (∀ v ∈ b, validValB v = true) → a.map textB = b.map textB → a = b := fun a => by
      induction a with
      | nil => intro b _ _ h; cases b with
        | nil => rfl
        | cons y b => cases h
      | cons x a ih =>
        intro b ha hb h
        cases b with
        | nil => cases h
        | cons y b =>
          simp only [List.map_cons, List.cons.injEq] at h
          rw [textB_inj (ha x List.mem_cons_self) (hb y List.mem_cons_self) h.1, ih b (fun v hv => ha v (List.mem_cons_of_mem _ hv)) (fun v hv => hb v (List.mem_cons_of_mem _ hv)) h.2]
    exact map_inj _ _ m3 n3 h5
theorem valid16_node {L : List NodeC} (h : valid16B L = true) : ∀ n ∈ L, validNodeB n = true := fun n hn => by
  obtain ⟨k, hk⟩ := List.getElem?_of_mem hn
  have hlt := (List.getElem?_eq_some_iff.1 hk).1
  have := List.all_eq_true.1 h k (List.mem_range.2 hlt)
  unfold okAtB at this
  rw [hk] at this
  simp only [Bool.and_eq_true] at this
  exact this.1
theorem linesB_inj {L M : List NodeC} (hL : valid16B L = true) (hM : valid16B M = true) (h : linesB L = linesB M) : L = M := by
  unfold linesB at h
  rw [if_pos hL, if_pos hM] at h
  have key : ∀ (a b : List NodeC), (∀ v ∈ a, validNodeB v = true) → (∀ v ∈ b, validNodeB v = true) → a.map lineB = b.map lineB → a = b := fun a => by
    induction a with
    | nil => intro b _ _ h; cases b with
      | nil => rfl
      | cons y b => cases h
    | cons x a ih =>
      intro b ha hb h
      cases b with
      | nil => cases h
      | cons y b =>
        simp only [List.map_cons, List.cons.injEq] at h
        rw [lineB_inj (ha x List.mem_cons_self) (hb y List.mem_cons_self) h.1, ih b (fun v hv => ha v (List.mem_cons_of_mem _ hv)) (fun v hv => hb v (List.mem_cons_of_mem _ hv)) h.2]
  exact key _ _ (valid16_node hL) (valid16_node hM) h
end Go.Proofs.YtpkfenlfgdbkcaaGreatDoor

namespace Go.Proofs.YtpkfenlfgdbkcaaGreatDoor
theorem mergeN_mem2 {a b m : NodeC} (h : mergeN a b = some m) : m = a ∨ m = b := by
  unfold mergeN at h
  split at h
  · split at h
    · injection h with h; exact .inl h.symm
    · cases h
  · split at h
    · injection h with h
      split at h
      · exact .inr h.symm
      · exact .inl h.symm
    · cases h
theorem putN_mem2 {l l' : List NodeC} {n x : NodeC} (h : putN l n = some l') (hx : x ∈ l') : x ∈ l ∨ x = n := by
  have hins : x ∈ l.take (posN l n.id) ++ [n] ++ l.drop (posN l n.id) → x ∈ l ∨ x = n := fun hx => by
    rcases List.mem_append.1 hx with hx | hx
    · rcases List.mem_append.1 hx with hx | hx
      · exact .inl (List.mem_of_mem_take hx)
      · exact .inr (List.mem_singleton.1 hx)
    · exact .inl (List.mem_of_mem_drop hx)
  unfold putN at h
  split at h
  · next a ha =>
    split at h
    · obtain ⟨m, hm, rfl⟩ := Option.map_eq_some_iff.1 h
      rcases List.mem_or_eq_of_mem_set hx with hx | rfl
      · exact .inl hx
      · rcases mergeN_mem2 hm with rfl | rfl
        · exact .inl (List.mem_of_getElem? ha)
        · exact .inr rfl
    · injection h with h; subst h; exact hins hx
  · injection h with h; subst h; exact hins hx
theorem putAll_mem2 {ns : List NodeC} : ∀ {acc q : List NodeC} {x : NodeC}, putAll acc ns = some q → x ∈ q → x ∈ acc ∨ x ∈ ns := by
  induction ns with
  | nil => intro acc q x h hx; unfold putAll at h; injection h with h; subst h; exact .inl hx
  | cons n ns ih =>
    intro acc q x h hx
    unfold putAll at h
    split at h
    · cases h
    · next acc' ha =>
      rcases ih h hx with h1 | h1
      · rcases putN_mem2 ha h1 with h2 | rfl
        · exact .inl h2
        · exact .inr (List.mem_cons_self)
      · exact .inr (List.mem_cons_of_mem _ h1)
theorem unionC_bnd2 {ls : List (List NodeC)} {M N : Nat} (hN : ls.flatten.length ≤ N) (hM : ∀ L ∈ ls, ∀ x ∈ L, x.fields.length ≤ M) : (unionC ls).1.length ≤ N ∧ ∀ x ∈ (unionC ls).1, x.fields.length ≤ M := by
  unfold unionC
  split
  · split
    · next q hq =>
      refine ⟨by have := (putAll_sorted nil_sorted hq).2; simp only [List.length_nil] at this; show q.length ≤ N; omega, fun x hx => ?_⟩
      rcases putAll_mem2 hq hx with h | h
      · cases h
      · obtain ⟨L, hL, hx⟩ := List.mem_flatten.1 h
        exact hM L hL x hx
    · exact ⟨by simp, by simp⟩
  · exact ⟨by simp, by simp⟩
theorem union_node {ls : List (List NodeC)} {n : NodeC} (h : n ∈ (unionC ls).1) : validNodeB n = true ∧ ∃ L ∈ ls, n ∈ L := by
  unfold unionC at h
  split at h
  · next hv =>
    split at h
    · next q hq =>
      rcases putAll_mem2 hq h with h1 | h1
      · cases h1
      · obtain ⟨L, hL, hn⟩ := List.mem_flatten.1 h1
        exact ⟨valid16_node (List.all_eq_true.1 hv L hL) n hn, L, hL, hn⟩
    · cases h
  · cases h
theorem union_sorted (ls : List (List NodeC)) : SortedN (unionC ls).1 := by
  unfold unionC
  split
  · split
    · next q hq => exact (putAll_sorted nil_sorted hq).1
    · exact List.Pairwise.nil
  · exact List.Pairwise.nil
theorem graph_node {V : List ViewE} {n : NodeC} (h : n ∈ (graphV V).1) : validNodeB n = true := (union_node h).1
theorem graph_fields {V : List ViewE} {n : NodeC} (h : n ∈ (graphV V).1) : n.fields.length ≤ 30 := by
  have h1 := graph_node h
  unfold validNodeB kindB at h1
  rw [Bool.and_eq_true, Bool.and_eq_true] at h1
  have h2 := h1.2
  clear h1
  split at h2
  · have := of_decide_eq_true h2; omega
  · split at h2
    · rw [Bool.and_eq_true] at h2; have := of_decide_eq_true h2.1; omega
    · split at h2
      · have := of_decide_eq_true h2; omega
      · cases h2
theorem graph_zero {V : List ViewE} : zeroI ∉ ids (graphV V).1 := fun h => by
  obtain ⟨n, hn, he⟩ := List.mem_map.1 h
  have h1 := graph_node hn
  unfold validNodeB at h1
  rw [Bool.and_eq_true, Bool.and_eq_true] at h1
  have h2 := h1.1.2
  rw [he] at h2
  revert h2
  decide
theorem graph_len {V : List ViewE} (hf : FewV V) : (graphV V).1.length ≤ 1000 := by
  have h1 : (V.map fun v => (conL v.objects).length).sum ≤ 12 * V.length := by
    have : ∀ l : List ViewE, (∀ v ∈ l, v.objects.length ≤ 12) → (l.map fun v => (conL v.objects).length).sum ≤ 12 * l.length := by
      intro l
      induction l with
      | nil => intro _; simp
      | cons v l ih =>
        intro h
        have h1 := ih fun z hz => h z (List.mem_cons_of_mem _ hz)
        have h2 := h v List.mem_cons_self
        have h3 : (conL v.objects).length = v.objects.length := by unfold conL; rw [List.length_map]
        rw [List.map_cons, List.sum_cons, List.length_cons, h3]
        omega
    exact this V fun v hv => (hf.v v hv).o
  have h2 : ∀ l : List (ViewE × FlightE), (movesOf V l).flatten.length ≤ l.length := by
    intro l
    induction l with
    | nil => simp [movesOf]
    | cons p l ih =>
      unfold movesOf at ih ⊢
      rw [List.flatMap_cons, List.flatten_append, List.length_append, List.length_cons]
      have h0 : (if p.2.msg.kind = 1 then [[movedN V p]] else []).flatten.length ≤ 1 := by split <;> simp
      omega
  have h3 : (flightsOf V).length ≤ 6 * V.length := by
    unfold flightsOf
    have : ∀ l : List ViewE, (∀ v ∈ l, v.flights.length ≤ 6) → (l.flatMap fun v => (v.flights.filter (flyB V v)).map fun x => (v, x)).length ≤ 6 * l.length := by
      intro l
      induction l with
      | nil => intro _; simp
      | cons v l ih =>
        intro h
        have h1 := ih fun z hz => h z (List.mem_cons_of_mem _ hz)
        have h2 := h v List.mem_cons_self
        have h3 := List.length_filter_le (flyB V v) v.flights
        rw [List.flatMap_cons, List.length_append, List.length_map, List.length_cons]
        omega
    exact this V fun v hv => (hf.v v hv).f
  have h4 := hf.l
  have h5 : (graphsV V).flatten.length ≤ 1000 := by
    unfold graphsV
    rw [List.flatten_append, List.length_append, List.length_flatten, List.map_map]
    have := h2 (flightsOf V)
    have h6 : (V.map (List.length ∘ fun v => conL v.objects)).sum ≤ 12 * V.length := h1
    omega
  unfold graphV unionC
  split
  · split
    · next q hq => have := (putAll_sorted nil_sorted hq).2; simp only [List.length_nil] at this; show q.length ≤ _; omega
    · exact Nat.zero_le _
  · exact Nat.zero_le _
theorem flatMap_len {α β : Type} {f : α → List β} {k : Nat} : ∀ {l : List α}, (∀ x ∈ l, (f x).length ≤ k) → (l.flatMap f).length ≤ k * l.length
  | [], _ => by simp
  | x :: l, h => by
    have h1 := flatMap_len (f := f) (k := k) (l := l) fun y hy => h y (List.mem_cons_of_mem _ hy)
    have h2 := h x List.mem_cons_self
    rw [List.flatMap_cons, List.length_append, List.length_cons, Nat.mul_succ]
    omega
theorem roots_len {V : List ViewE} (hf : FewV V) : (rootsV V).length ≤ 5000 := by
  have h0 := hf.l
  have h1 : (V.flatMap rootsO).length ≤ 48 * V.length := flatMap_len fun v hv => by
    have hn := (hf.v v hv).n
    have hm := (hf.v v hv).m
    have h2 : (v.mail.flatMap rootsM).length ≤ 7 * v.mail.length := flatMap_len fun m hm => by
      have h3 := (hf.v v hv).a m hm
      have h4 := List.length_filter_le (fun a : ValE => a.kind == 2) m.args
      unfold rootsM
      rw [List.length_cons, List.length_map]
      omega
    unfold rootsO
    rw [List.length_append, List.length_map]
    omega
  have h2 : (flightsOf V).length ≤ 6 * V.length := flatMap_len fun v hv => by
    have h3 := List.length_filter_le (flyB V v) v.flights
    have h4 := (hf.v v hv).f
    rw [List.length_map]
    omega
  have h3 : ((flightsOf V).flatMap (rootsF V)).length ≤ 28 * (flightsOf V).length := flatMap_len fun p hp => by
    obtain ⟨v, hv, hp⟩ := List.mem_flatMap.1 hp
    obtain ⟨x, hx, rfl⟩ := List.mem_map.1 hp
    have hx' := (hf.v v hv).g x (List.mem_filter.1 hx).1
    have l1 := hx'.l
    have l2 := hx'.m
    have h4 : (x.msg.parcel.mail.flatMap fun l => x.msg.parcel.id :: l.args.map (refId V v.machine x.dst)).length ≤ 7 * x.msg.parcel.mail.length := flatMap_len fun y hy => by
      have := hx'.a y hy
      rw [List.length_cons, List.length_map]
      omega
    unfold rootsF
    split
    · show (_ :: x.msg.letter.args.map _).length ≤ 28
      rw [List.length_cons, List.length_map]; omega
    · split
      · simp
      · split
        · exact Nat.le_trans h4 (by omega)
        · simp
  have h4 : (rootsV V).length ≤ (rootsRaw V).length := Nat.le_trans (List.length_filter_le _ _) (by
    have h : ∀ (l a : List IDE), (l.foldl putI a).length ≤ a.length + l.length := by
      intro l
      induction l with
      | nil => intro a; simp
      | cons x l ih =>
        intro a
        have h1 := ih (putI a x)
        have h2 := putI_len a x
        simp only [List.foldl_cons, List.length_cons] at h1 ⊢
        omega
    have := h (rootsRaw V) []
    simpa [setI] using this)
  have h5 : (rootsRaw V).length = (V.flatMap rootsO).length + ((flightsOf V).flatMap (rootsF V)).length := by unfold rootsRaw; rw [List.length_append]
  omega
end Go.Proofs.YtpkfenlfgdbkcaaGreatDoor

namespace Go.Proofs.YtpkfenlfgdbkcaaGreatDoor
open Go.RowKit
attribute [local go_sem ↓] run_eql_id run_neq_id
attribute [local simp] heap_drew
/-- A graph: its nodes lie at A. -/
structure GrE where
  A : Option Addr
  c : Nat
  l : List NodeE
def GrE.cells (g : GrE) : List Value := [.slice g.A g.l.length g.c]
abbrev GrE.v (g : GrE) : Value := .agg #[.slice g.A g.l.length g.c]
theorem GrE.enc : Enc GrE.cells 1 := ⟨fun _ => rfl, fun x u hu => by simp only [GrE.cells, List.mem_cons, List.not_mem_nil, or_false] at hu; subst hu; rfl, by decide⟩
structure GraphsAt (w : World) (A : Option Addr) (gs : List GrE) : Prop where
  s : SlAt GrE.cells 1 w A gs
  n : ∀ g ∈ gs, NodesAt w g.A g.l
theorem GraphsAt.below {w w' : World} {A : Option Addr} {gs : List GrE} (h : GraphsAt w A gs) (hb : Below w.heap.size w w') : GraphsAt w' A gs := ⟨h.s.below hb, fun g hg => (h.n g hg).below hb⟩
theorem GraphsAt.later {w : World} {A : Option Addr} {gs : List GrE} (h : GraphsAt w A gs) : ∀ u [Later w u], GraphsAt u A gs := fun _ i => h.below i.below
theorem GraphsAt.get {w : World} {A : Option Addr} {gs : List GrE} (h : GraphsAt w A gs) {k : Nat} (hk : k < gs.length) : ∃ b o g, A = some ⟨b, o, none⟩ ∧ gs[k]? = some g ∧ (∀ u [Later w u], u.cell? ⟨b, o + k, none⟩ = some (.slice g.A g.l.length g.c)) ∧ ∀ u [Later w u], NodesAt u g.A g.l := by
  obtain ⟨b, o, g, hA, _, hg, hc⟩ := h.s.at_ hk
  refine ⟨b, o, g, hA, hg, fun u i => ?_, fun u i => (h.n g (List.mem_of_getElem? hg)).below i.below⟩
  have := cell_below (hc 0 _ rfl) i.below
  simpa using this
def cntG (l : List NodeE) : Nat := l.length + fieldsN (conL l)
def totG (gs : List GrE) : Nat := (gs.map fun g => cntG g.l).sum
theorem cntG_take {l : List NodeE} {k : Nat} {n : NodeE} (h : l[k]? = some n) : cntG (l.take (k + 1)) = cntG (l.take k) + (1 + n.fields.length) := by
  have hlt := (List.getElem?_eq_some_iff.1 h).1
  unfold cntG fieldsN conL
  rw [List.take_add_one, h]
  simp only [Option.toList_some, List.map_append, List.map_cons, List.map_nil, List.sum_append, List.sum_cons, List.sum_nil, List.length_append, List.length_cons, List.length_nil, NodeE.con]
  omega
theorem cntG_take_le (l : List NodeE) (k : Nat) : cntG (l.take k) ≤ cntG l := by
  have h : cntG l = cntG (l.take k) + cntG (l.drop k) := by
    have e : l = l.take k ++ l.drop k := (List.take_append_drop k l).symm
    unfold cntG fieldsN conL
    conv => lhs; rw [e]
    simp only [List.map_append, List.sum_append, List.length_append]
    omega
  omega
theorem cntG_len (l : List NodeE) : l.length ≤ cntG l := by unfold cntG; omega
theorem cntG_field {l : List NodeE} {n : NodeE} (h : n ∈ l) : n.fields.length ≤ cntG l := by
  have h1 : n.con ∈ conL l := List.mem_map.2 ⟨n, h, rfl⟩
  have h2 := fieldsN_le h1
  have h3 : n.con.fields.length = n.fields.length := rfl
  unfold cntG
  omega
theorem totG_take {gs : List GrE} {k : Nat} {g : GrE} (h : gs[k]? = some g) : totG (gs.take (k + 1)) = totG (gs.take k) + cntG g.l := by
  unfold totG
  rw [List.take_add_one, h]
  simp
theorem totG_take_le (gs : List GrE) (k : Nat) : totG (gs.take k) ≤ totG gs := by
  have e : gs = gs.take k ++ gs.drop k := (List.take_append_drop k gs).symm
  unfold totG
  conv => rhs; rw [e]
  rw [List.map_append, List.sum_append]
  omega
theorem totG_mem {gs : List GrE} {g : GrE} (h : g ∈ gs) : cntG g.l ≤ totG gs := by
  unfold totG
  induction gs with
  | nil => cases h
  | cons x gs ih =>
    rw [List.map_cons, List.sum_cons]
    rcases List.mem_cons.1 h with rfl | h
    · omega
    · have := ih h; omega
end Go.Proofs.YtpkfenlfgdbkcaaGreatDoor

namespace Go.Proofs.YtpkfenlfgdbkcaaGreatDoor
open Go.RowKit

section
variable {κ α : Type}
def entsL (fk : κ → Value) (fv : α → Value) (kf : α → κ) (l : List α) (bs : List Nat) : List MapEntry := List.zipWith (fun x b => { key := fk (kf x), val := fv x, born := b }) l bs
def findK [DecidableEq κ] (kf : α → κ) (l : List α) (k : κ) : Option α := l.find? fun x => decide (kf x = k)
def putK [DecidableEq κ] (kf : α → κ) (l : List α) (v : α) : List α := if (l.any fun x => decide (kf x = kf v)) then l.map (fun x => if kf x = kf v then v else x) else l ++ [v]
def remK [DecidableEq κ] (kf : α → κ) (l : List α) (k : κ) : List α := l.filter fun x => !decide (kf x = k)
/-- Block g is a map that holds the values l, each at its own key. -/
def MapL (fk : κ → Value) (fv : α → Value) (kf : α → κ) (w : World) (g : Nat) (l : List α) : Prop :=
  ∃ (bs : List Nat) (clock : Nat), w.heap[g]? = some (.map (entsL fk fv kf l bs).toArray clock) ∧ bs.length = l.length ∧ bs.Nodup ∧ (∀ b ∈ bs, b < clock) ∧ (l.map kf).Nodup
variable {fk : κ → Value} {fv : α → Value} {kf : α → κ} {w w' : World} {g r : Nat} {l : List α} {bs : List Nat}
theorem ents_get (hl : bs.length = l.length) {j : Nat} {e : MapEntry} : (entsL fk fv kf l bs)[j]? = some e ↔ ∃ x b, l[j]? = some x ∧ bs[j]? = some b ∧ e = { key := fk (kf x), val := fv x, born := b } := by
  unfold entsL
  rw [List.getElem?_zipWith]
  cases hx : l[j]? with
  | none => simp
  | some x =>
    cases hb : bs[j]? with
    | none => simp
    | some b => simp [eq_comm]
theorem ents_mem (hl : bs.length = l.length) {e : MapEntry} : e ∈ entsL fk fv kf l bs ↔ ∃ (j : Nat) (x : α) (b : Nat), l[j]? = some x ∧ bs[j]? = some b ∧ e = { key := fk (kf x), val := fv x, born := b } := by
  constructor
  · intro h
    obtain ⟨j, hj⟩ := List.getElem?_of_mem h
    exact ⟨j, (ents_get hl).1 hj⟩
  · rintro ⟨j, h⟩
    exact List.mem_of_getElem? ((ents_get hl).2 h)
theorem ents_length (hl : bs.length = l.length) : (entsL fk fv kf l bs).length = l.length := by simp [entsL, hl]
theorem ents_born (hl : bs.length = l.length) : (entsL fk fv kf l bs).map (·.born) = bs := by
  apply List.ext_getElem?
  intro i
  rw [List.getElem?_map]
  cases hb : bs[i]? with
  | none =>
    have : (entsL fk fv kf l bs)[i]? = none := List.getElem?_eq_none (by rw [ents_length hl, ← hl]; exact List.getElem?_eq_none_iff.1 hb)
    rw [this]; rfl
  | some b =>
    have hi := (List.getElem?_eq_some_iff.1 hb).1
    have hx : l[i]? = some (l[i]'(by omega)) := List.getElem?_eq_getElem _
    rw [(ents_get (fk := fk) (fv := fv) (kf := kf) hl).2 ⟨_, b, hx, hb, rfl⟩]; rfl
theorem MapL.lt (h : MapL fk fv kf w g l) : g < w.heap.size := by
  obtain ⟨bs, c, hb, _⟩ := h
  exact blk_lt hb
theorem MapL.nodup (h : MapL fk fv kf w g l) : (l.map kf).Nodup := by obtain ⟨bs, c, _, _, _, _, h⟩ := h; exact h
theorem MapL.of_heap (h : MapL fk fv kf w g l) (hb : w'.heap[g]? = w.heap[g]?) : MapL fk fv kf w' g l := by
  obtain ⟨bs, c, h1, h2⟩ := h
  exact ⟨bs, c, hb.trans h1, h2⟩
theorem MapL.below (h : MapL fk fv kf w g l) (hb : Below w.heap.size w w') : MapL fk fv kf w' g l := h.of_heap (hb.block g h.lt)
theorem MapL.later (h : MapL fk fv kf w g l) : ∀ u [Later w u], MapL fk fv kf u g l := fun _ i => h.below i.below
theorem MapL.kept {row : Option Nat} (h : MapL fk fv kf w g l) (hg : w.grownBy w' row) (hne : row ≠ some g) : MapL fk fv kf w' g l := h.of_heap (hg.block g h.lt (fun e => hne e.symm))
theorem mapL_made (w : World) : MapL fk fv kf (w.alloc (.map #[] 0)) w.heap.size [] := ⟨[], 0, heap_alloc_new w _, rfl, List.nodup_nil, by simp, List.nodup_nil⟩
theorem nodup_at {l : List α} (h : (l.map kf).Nodup) {i j : Nat} {x y : α} (hx : l[i]? = some x) (hy : l[j]? = some y) (he : kf x = kf y) : i = j := by
  have hp : l.Pairwise fun a b => kf a ≠ kf b := List.pairwise_map.1 h
  have hi := List.getElem?_eq_some_iff.1 hx
  have hj := List.getElem?_eq_some_iff.1 hy
  obtain ⟨hi1, hi2⟩ := hi
  obtain ⟨hj1, hj2⟩ := hj
  rcases Nat.lt_trichotomy i j with hlt | heq | hgt
  · have := List.pairwise_iff_getElem.1 hp i j hi1 hj1 hlt
    rw [hi2, hj2] at this; exact absurd he this
  · exact heq
  · have := List.pairwise_iff_getElem.1 hp j i hj1 hi1 hgt
    rw [hi2, hj2] at this; exact absurd he.symm this
theorem nodup_at' {l : List Nat} (h : l.Nodup) {i j : Nat} {x : Nat} (hx : l[i]? = some x) (hy : l[j]? = some x) : i = j := nodup_at (kf := id) (by simpa using h) hx hy rfl
section
variable [DecidableEq κ]
/-- Where the key stands, and that no other does: in each world. -/
theorem MapL.find {P : Program} {kt : TypeId} (L : KeyL P kt fk) (hl : bs.length = l.length) (hn : (l.map kf).Nodup) (k : κ) :
    ((∀ u : World, (Instr.findKey kt (fk k) (entsL fk fv kf l bs)).run P u = .ok none u) ∧ ∀ x ∈ l, kf x ≠ k) ∨
    ∃ (j : Nat) (x : α), (∀ u : World, (Instr.findKey kt (fk k) (entsL fk fv kf l bs)).run P u = .ok (some (j, fv x)) u) ∧ l[j]? = some x ∧ kf x = k := by
  have hks : ∀ e ∈ entsL fk fv kf l bs, ∃ b, e.key = fk b := fun e he => by
    obtain ⟨j, x, b, _, _, rfl⟩ := (ents_mem hl).1 he; exact ⟨kf x, rfl⟩
  by_cases hk : ∃ x ∈ l, kf x = k
  · obtain ⟨x, hx, hkx⟩ := hk
    obtain ⟨j, hj⟩ := List.getElem?_of_mem hx
    refine .inr ⟨j, x, fun u => ?_, hj, hkx⟩
    rcases L.find u k _ hks with ⟨_, e2⟩ | ⟨j', e, e1, e2, e3⟩
    · obtain ⟨b, hb⟩ : ∃ b, bs[j]? = some b := ⟨_, List.getElem?_eq_getElem (by rw [hl]; exact (List.getElem?_eq_some_iff.1 hj).1)⟩
      exact absurd (congrArg fk hkx) (e2 _ ((ents_mem hl).2 ⟨j, x, b, hj, hb, rfl⟩))
    · obtain ⟨x', b', hx', hb', rfl⟩ := (ents_get hl).1 e2
      have hkk : kf x' = k := L.inj _ _ e3
      have hjj : j' = j := nodup_at hn hx' hj (hkk.trans hkx.symm)
      subst hjj
      rw [hj] at hx'; injection hx' with hx'; subst hx'
      exact e1
  · have hno : ∀ x ∈ l, kf x ≠ k := fun x hx h => hk ⟨x, hx, h⟩
    refine .inl ⟨fun u => ?_, hno⟩
    rcases L.find u k _ hks with ⟨e1, _⟩ | ⟨j', e, _, e2, e3⟩
    · exact e1
    · obtain ⟨x', b', hx', _, rfl⟩ := (ents_get hl).1 e2
      exact absurd (L.inj _ _ e3) (hno x' (List.mem_of_getElem? hx'))
theorem findK_none {k : κ} (h : ∀ x ∈ l, kf x ≠ k) : findK kf l k = none := by
  unfold findK
  rw [List.find?_eq_none]
  intro x hx; simpa using h x hx
theorem findK_at (hn : (l.map kf).Nodup) {j : Nat} {x : α} {k : κ} (hx : l[j]? = some x) (hk : kf x = k) : findK kf l k = some x := by
  unfold findK
  cases h : l.find? fun x => decide (kf x = k) with
  | none => rw [List.find?_eq_none] at h; exact absurd hk (by simpa using h x (List.mem_of_getElem? hx))
  | some y =>
    have hy := List.mem_of_find?_eq_some h
    obtain ⟨i, hi⟩ := List.getElem?_of_mem hy
    have hky : kf y = k := by simpa using List.find?_some h
    have := nodup_at hn hi hx (hky.trans hk.symm)
    subst this
    rw [hx] at hi; rw [hi]
theorem run_lookL {P : Program} {kt et t : TypeId} (L : KeyL P kt fk) (ht : P.underlying t = some (.map kt et)) {z : Value} (hz : ∀ w, (zeroValue et).run P w = .ok z w) (h : MapL fk fv kf w g l) (k : κ) :
    (Instr.lookup t (.map (some g)) (fk k) true).run P w = .ok (.tuple #[(findK kf l k).elim z fv, .bool (findK kf l k).isSome]) w := by
  obtain ⟨bs, c, hb, hl, h1, h2, h3⟩ := h
  rcases MapL.find (fv := fv) (kf := kf) L hl h3 k with ⟨e1, e2⟩ | ⟨j, x, e1, e2, e3⟩
  · simp [Instr.lookup, run_underlying ht, MapKept.run_getObj_map hb, L.check, e1, hz, Result.andThen, findK_none e2]
  · simp [Instr.lookup, run_underlying ht, MapKept.run_getObj_map hb, L.check, e1, Result.andThen, findK_at h3 e2 e3]
theorem putK_new {v : α} (h : ∀ x ∈ l, kf x ≠ kf v) : putK kf l v = l ++ [v] := by
  unfold putK
  rw [if_neg]
  simpa using h
theorem putK_old (hn : (l.map kf).Nodup) {j : Nat} {x v : α} (hx : l[j]? = some x) (hk : kf x = kf v) : putK kf l v = l.set j v := by
  unfold putK
  rw [if_pos (List.any_eq_true.2 ⟨x, List.mem_of_getElem? hx, by simpa using hk⟩)]
  apply List.ext_getElem?
  intro i
  rw [List.getElem?_map]
  by_cases hij : j = i
  · subst hij
    rw [List.getElem?_set_self (List.getElem?_eq_some_iff.1 hx).1, hx]; simp [hk]
  · rw [List.getElem?_set_ne hij]
    cases hi : l[i]? with
    | none => rfl
    | some y =>
      have : ¬ kf y = kf v := fun e => hij (nodup_at hn hx hi (hk.trans e.symm))
      simp [this]
theorem putK_keys (hn : (l.map kf).Nodup) {v : α} : ((putK kf l v).map kf).Nodup := by
  by_cases h : ∃ x ∈ l, kf x = kf v
  · obtain ⟨x, hx, hk⟩ := h
    obtain ⟨j, hj⟩ := List.getElem?_of_mem hx
    rw [putK_old hn hj hk]
    have : (l.set j v).map kf = l.map kf := by
      apply List.ext_getElem?
      intro i
      rw [List.getElem?_map, List.getElem?_map]
      by_cases hij : j = i
      · subst hij
        rw [List.getElem?_set_self (List.getElem?_eq_some_iff.1 hj).1, hj]; simp [hk]
      · rw [List.getElem?_set_ne hij]
    rw [this]; exact hn
  · have hno : ∀ x ∈ l, kf x ≠ kf v := fun x hx e => h ⟨x, hx, e⟩
    rw [putK_new hno, List.map_append]
    refine List.nodup_append.2 ⟨hn, by simp, fun a ha b hb => ?_⟩
    obtain ⟨x, hx, rfl⟩ := List.mem_map.1 ha
    simp at hb
    rw [hb]; exact hno x hx
/-- m[k] = v, v at its own key: the run in each later world; what the map is then. -/
theorem run_putL {P : Program} {kt et t : TypeId} (L : KeyL P kt fk) (ht : P.underlying t = some (.map kt et)) (h : MapL fk fv kf w g l) (v : α) : ∃ o : Obj,
    (∀ (u : World) [Later w u], (Instr.mapUpdate t (.map (some g)) (fk (kf v)) (fv v)).run P u = .ok () (putAt u g o)) ∧ (∀ (u : World) [Later w u], MapL fk fv kf (putAt u g o) g (putK kf l v)) ∧
    (∀ (u : World) [Later w u] a, (putAt u g o).cell? a = u.cell? a) ∧ (∀ (u : World) [Later w u] a, (putAt u g o).frozen? a = u.frozen? a) := by
  obtain ⟨bs, c, hb, hl, h1, h2, h3⟩ := h
  have hget : ∀ (u : World) [Later w u], u.heap[g]? = some (.map (entsL fk fv kf l bs).toArray c) := fun u i => blk_below hb i.below
  have key : ∃ (bs' : List Nat) (c' : Nat), (∀ (u : World) [Later w u], (Instr.mapUpdate t (.map (some g)) (fk (kf v)) (fv v)).run P u = .ok () (putAt u g (.map (entsL fk fv kf (putK kf l v) bs').toArray c'))) ∧ bs'.length = (putK kf l v).length ∧ bs'.Nodup ∧ (∀ b ∈ bs', b < c') := by
    rcases MapL.find (fv := fv) (kf := kf) L hl h3 (kf v) with ⟨e1, e2⟩ | ⟨j, x, e1, e2, e3⟩
    · refine ⟨bs ++ [c], c + 1, fun u i => ?_, by rw [putK_new e2]; simp [hl], ?_, ?_⟩
      · have : (entsL fk fv kf l bs).toArray.push { key := fk (kf v), val := fv v, born := c } = (entsL fk fv kf (putK kf l v) (bs ++ [c])).toArray := by
          rw [putK_new e2]
          simp [entsL, List.zipWith_append hl.symm]
        simp [Instr.mapUpdate, run_underlying ht, MapKept.run_getObj_map (hget u), L.check, e1, Result.andThen, MapKept.run_setObj_map _ (hget u), putAt, ← this]
      · refine List.nodup_append.2 ⟨h1, by simp, fun a ha b hb => ?_⟩
        simp at hb; have := h2 a ha; omega
      · intro b hb
        rcases List.mem_append.1 hb with hb | hb
        · have := h2 b hb; omega
        · simp at hb; omega
    · refine ⟨bs, c, fun u i => ?_, by rw [putK_old h3 e2 e3, List.length_set]; exact hl, h1, h2⟩
      obtain ⟨b, hbj⟩ : ∃ b, bs[j]? = some b := ⟨_, List.getElem?_eq_getElem (by rw [hl]; exact (List.getElem?_eq_some_iff.1 e2).1)⟩
      have hej := (ents_get (fk := fk) (fv := fv) (kf := kf) hl).2 ⟨x, b, e2, hbj, rfl⟩
      have : (entsL fk fv kf l bs).toArray.modify j (fun e => { e with key := fk (kf v), val := fv v }) = (entsL fk fv kf (putK kf l v) bs).toArray := by
        apply Array.ext_getElem?
        intro i
        rw [Array.getElem?_modify, putK_old h3 e2 e3, List.getElem?_toArray, List.getElem?_toArray]
        by_cases hij : j = i
        · subst hij
          rw [if_pos rfl, hej, (ents_get (fk := fk) (fv := fv) (kf := kf) (by rw [List.length_set]; exact hl)).2 ⟨v, b, List.getElem?_set_self (List.getElem?_eq_some_iff.1 e2).1, hbj, rfl⟩]
          rfl
        · rw [if_neg hij]
          cases hi : (entsL fk fv kf l bs)[i]? with
          | none =>
            symm
            rw [List.getElem?_eq_none_iff] at hi ⊢
            rw [ents_length (by rw [List.length_set]; exact hl), List.length_set]
            rw [ents_length hl] at hi; exact hi
          | some e =>
            obtain ⟨x', b', hx', hb', rfl⟩ := (ents_get hl).1 hi
            symm
            exact (ents_get (by rw [List.length_set]; exact hl)).2 ⟨x', b', by rw [List.getElem?_set_ne hij]; exact hx', hb', rfl⟩
      simp [Instr.mapUpdate, run_underlying ht, MapKept.run_getObj_map (hget u), L.check, e1, Result.andThen, hej, e3, L.stays, MapKept.run_setObj_map _ (hget u), putAt, ← this]
  obtain ⟨bs', c', k1, k2, k3, k4⟩ := key
  refine ⟨_, k1, fun u i => ⟨bs', c', ?_, k2, k3, k4, putK_keys h3⟩, fun u i a => ?_, fun u i a => ?_⟩
  · unfold putAt
    rw [Array.getElem?_setIfInBounds, if_pos rfl, if_pos (blk_lt (hget u))]
  · have hu := hget u
    have hlt := blk_lt hu
    unfold World.cell? putAt
    by_cases hga : g = a.block
    · rw [← hga, hu]; simp [hlt]
    · simp [hga]
  · have hu := hget u
    have hlt := blk_lt hu
    unfold World.frozen? putAt
    by_cases hga : g = a.block
    · rw [← hga, hu]; simp [hlt]
    · simp [hga]
/-- delete(m, k). -/
theorem run_remL {P : Program} {kt et t ty : TypeId} (L : KeyL P kt fk) (ht : P.underlying t = some (.map kt et)) (h : MapL fk fv kf w g l) (k : κ) : ∃ o : Obj,
    (∀ (u : World) [Later w u], (Builtin.delete_ #[t, kt] ty #[.map (some g), fk k]).run P u = .ok (.tuple #[]) (putAt u g o)) ∧ (∀ (u : World) [Later w u], MapL fk fv kf (putAt u g o) g (remK kf l k)) := by
  obtain ⟨bs, c, hb, hl, h1, h2, h3⟩ := h
  have hget : ∀ (u : World) [Later w u], u.heap[g]? = some (.map (entsL fk fv kf l bs).toArray c) := fun u i => blk_below hb i.below
  rcases MapL.find (fv := fv) (kf := kf) L hl h3 k with ⟨e1, e2⟩ | ⟨j, x, e1, e2, e3⟩
  · refine ⟨.map (entsL fk fv kf l bs).toArray c, fun u i => ?_, fun u i => ⟨bs, c, ?_, ?_, h1, h2, ?_⟩⟩
    · simp [Builtin.delete_, run_underlying ht, MapKept.run_getObj_map (hget u), L.check, e1, Result.andThen, MapKept.run_setObj_map _ (hget u), putAt]
    · have : remK kf l k = l := List.filter_eq_self.2 fun x hx => by simpa using e2 x hx
      rw [this]; unfold putAt
      rw [Array.getElem?_setIfInBounds, if_pos rfl, if_pos (blk_lt (hget u))]
    · have : remK kf l k = l := List.filter_eq_self.2 fun x hx => by simpa using e2 x hx
      rw [this]; exact hl
    · have : remK kf l k = l := List.filter_eq_self.2 fun x hx => by simpa using e2 x hx
      rw [this]; exact h3
  · have hr : remK kf l k = l.eraseIdx j := by
      have hj := (List.getElem?_eq_some_iff.1 e2)
      obtain ⟨hj1, hj2⟩ := hj
      have hsp : l = l.take j ++ x :: l.drop (j + 1) := by rw [← hj2, List.getElem_cons_drop, List.take_append_drop]
      rw [List.eraseIdx_eq_take_drop_succ]
      unfold remK
      conv => lhs; rw [hsp]
      rw [List.filter_append, List.filter_cons]
      simp only [e3, decide_true, Bool.not_true, Bool.false_eq_true, if_false]
      congr 1
      · refine List.filter_eq_self.2 fun y hy => ?_
        obtain ⟨i, hi⟩ := List.getElem?_of_mem hy
        rw [List.getElem?_take] at hi
        split at hi
        · rename_i hij
          have : kf y ≠ k := fun e => by have := nodup_at h3 hi e2 (e.trans e3.symm); omega
          simpa using this
        · cases hi
      · refine List.filter_eq_self.2 fun y hy => ?_
        obtain ⟨i, hi⟩ := List.getElem?_of_mem hy
        rw [List.getElem?_drop] at hi
        have : kf y ≠ k := fun e => by have := nodup_at h3 hi e2 (e.trans e3.symm); omega
        simpa using this
    have hjl : j < l.length := (List.getElem?_eq_some_iff.1 e2).1
    have hea : ∀ (l : List α) (bs : List Nat) (j : Nat), bs.length = l.length → (entsL fk fv kf l bs).eraseIdx j = entsL fk fv kf (l.eraseIdx j) (bs.eraseIdx j) := by
      intro l
      induction l with
      | nil => intro bs j h; simp [entsL]
      | cons y l ih =>
        intro bs j h
        cases bs with
        | nil => simp at h
        | cons b bs =>
          cases j with
          | zero => simp [entsL]
          | succ j =>
            have := ih bs j (by simpa using h)
            simp only [entsL] at this
            simp [entsL, this]
    refine ⟨.map (entsL fk fv kf (l.eraseIdx j) (bs.eraseIdx j)).toArray c, fun u i => ?_, fun u i => ⟨bs.eraseIdx j, c, ?_, ?_, ?_, ?_, ?_⟩⟩
    · simp [Builtin.delete_, run_underlying ht, MapKept.run_getObj_map (hget u), L.check, e1, Result.andThen, MapKept.run_setObj_map _ (hget u), putAt, hea l bs j hl]
    · rw [hr]; unfold putAt
      rw [Array.getElem?_setIfInBounds, if_pos rfl, if_pos (blk_lt (hget u))]
    · rw [hr, List.length_eraseIdx, List.length_eraseIdx, hl]
    · exact h1.sublist (List.eraseIdx_sublist ..)
    · intro b hb'; exact h2 b ((List.eraseIdx_sublist ..).subset hb')
    · rw [hr]; exact h3.sublist ((List.eraseIdx_sublist ..).map kf)
end
end
end Go.Proofs.YtpkfenlfgdbkcaaGreatDoor

namespace Go.Proofs.YtpkfenlfgdbkcaaGreatDoor
open Go.RowKit
section
variable {κ α : Type} {fk : κ → Value} {fv : α → Value} {kf : α → κ} {w w' : World} {g r : Nat} {l : List α} {idxs : List Nat}
/-- Block r ranges over the map in block g, which holds l; those at idxs have come. -/
def RangeL (fk : κ → Value) (fv : α → Value) (kf : α → κ) (w : World) (g r : Nat) (l : List α) (idxs : List Nat) : Prop :=
  ∃ (bs : List Nat) (clock since : Nat) (seen : Array Nat) (c0 : Nat), w.heap[g]? = some (.map (entsL fk fv kf l bs).toArray clock) ∧ bs.length = l.length ∧ bs.Nodup ∧ (∀ b ∈ bs, b < clock) ∧ (l.map kf).Nodup ∧
    w.heap[r]? = some (.mapIter (some g) since seen c0) ∧ since ≤ c0 ∧ since ≤ clock ∧ (∀ b ∈ bs, b < since) ∧ idxs.Nodup ∧ (∀ i ∈ idxs, i < l.length) ∧ (∀ (i b : Nat), bs[i]? = some b → (seen.contains b = true ↔ i ∈ idxs)) ∧ seen.size = idxs.length
def pickL (l : List α) (idxs : List Nat) : List α := idxs.filterMap fun i => l[i]?
theorem RangeL.mapL (h : RangeL fk fv kf w g r l idxs) : MapL fk fv kf w g l := by
  obtain ⟨bs, c, s, sn, c0, h1, h2, h3, h4, h5, _⟩ := h
  exact ⟨bs, c, h1, h2, h3, h4, h5⟩
theorem RangeL.lt (h : RangeL fk fv kf w g r l idxs) : g < w.heap.size ∧ r < w.heap.size ∧ g ≠ r := by
  obtain ⟨bs, c, s, sn, c0, h1, h2, h3, h4, h5, h6, _⟩ := h
  exact ⟨blk_lt h1, blk_lt h6, fun e => by rw [e, h6] at h1; cases h1⟩
theorem RangeL.of_heap (h : RangeL fk fv kf w g r l idxs) (hg : w'.heap[g]? = w.heap[g]?) (hr : w'.heap[r]? = w.heap[r]?) : RangeL fk fv kf w' g r l idxs := by
  obtain ⟨bs, c, s, sn, c0, h1, h2, h3, h4, h5, h6, h7⟩ := h
  exact ⟨bs, c, s, sn, c0, hg.trans h1, h2, h3, h4, h5, hr.trans h6, h7⟩
theorem RangeL.below (h : RangeL fk fv kf w g r l idxs) (hb : Below w.heap.size w w') : RangeL fk fv kf w' g r l idxs := h.of_heap (hb.block g h.lt.1) (hb.block r h.lt.2.1)
theorem RangeL.later (h : RangeL fk fv kf w g r l idxs) : ∀ u [Later w u], RangeL fk fv kf u g r l idxs := fun _ i => h.below i.below
theorem RangeL.of_walks (h : RangeL fk fv kf w g r l idxs) (hk : KeepsWalks w w') : RangeL fk fv kf w' g r l idxs := by
  obtain ⟨bs, c, s, sn, c0, h1, h2, h3, h4, h5, h6, h7⟩ := h
  exact ⟨bs, c, s, sn, c0, hk.same g _ h1 rfl, h2, h3, h4, h5, hk.same r _ h6 rfl, h7⟩
theorem RangeL.iter (h : RangeL fk fv kf w g r l idxs) : ∃ o : Obj, w.heap[r]? = some o ∧ o.isWalk = true := by
  obtain ⟨bs, c, s, sn, c0, h1, h2, h3, h4, h5, h6, h7⟩ := h
  exact ⟨_, h6, rfl⟩
/-- range m. -/
theorem MapL.range {P : Program} {t kt et : TypeId} (ht : P.underlying t = some (.map kt et)) (h : MapL fk fv kf w g l) : ∃ w', (Instr.range t (.map (some g))).run P w = .ok (.pointer (some ⟨w.heap.size, 0, none⟩)) w' ∧ RangeL fk fv kf w' g w.heap.size l [] ∧ w.grownBy w' none ∧ w'.heap.size = w.heap.size + 1 ∧ Below w.heap.size w w' := by
  obtain ⟨bs, c, hb, hl, h1, h2, h3⟩ := h
  refine ⟨w.alloc (.mapIter (some g) c #[] c), run_range_map w t kt et g _ c ht hb, ⟨bs, c, c, #[], c, ?_, hl, h1, h2, h3, heap_alloc_new _ _, Nat.le_refl _, Nat.le_refl _, h2, List.nodup_nil, by simp, by simp, rfl⟩, World.grownBy_alloc _ _ _, by simp, (Below.refl _ _).alloc (Nat.le_refl _) _⟩
  rw [heap_alloc_old w _ (blk_lt hb)]; exact hb
theorem leftOf_mem {l : List α} {bs : List Nat} {seen : Array Nat} {e : MapEntry} (hl : bs.length = l.length) (he : e ∈ (leftOf (entsL fk fv kf l bs).toArray seen).toList) : ∃ (i : Nat) (x : α) (b : Nat), l[i]? = some x ∧ bs[i]? = some b ∧ e = { key := fk (kf x), val := fv x, born := b } ∧ seen.contains b = false := by
  obtain ⟨h1, h2⟩ := mem_left he
  obtain ⟨i, x, b, hx, hb, rfl⟩ := (ents_mem hl).1 (by simpa using h1)
  exact ⟨i, x, b, hx, hb, rfl, h2⟩
/-- The step: either all have come, or one that has not comes. -/
theorem RangeL.next {P : Program} (h : RangeL fk fv kf w g r l idxs) (ty : TypeId) :
    ((∀ i, i < l.length → i ∈ idxs) ∧ (Instr.next (.pointer (some ⟨r, 0, none⟩)) false ty).run P w = .ok (.tuple #[.bool false]) w) ∨
    ∃ (i : Nat) (x : α) (w' : World), l[i]? = some x ∧ i ∉ idxs ∧ (Instr.next (.pointer (some ⟨r, 0, none⟩)) false ty).run P w = .ok (.tuple #[.bool true, fk (kf x), fv x]) w' ∧ RangeL fk fv kf w' g r l (idxs ++ [i]) ∧
      (∀ (u : World) [Later w' u], (Instr.entry (.pointer (some ⟨r, 0, none⟩))).run P u = .ok (.tuple #[fk (kf x), fv x]) u) ∧ w.grownBy w' (some r) ∧ w'.heap.size = w.heap.size ∧ ∀ B, B ≤ r → Below B w w' := by
  have hlt := h.lt
  obtain ⟨bs, c, s, sn, c0, h1, h2, h3, h4, h5, h6, h7, h8, h9, h10, h11, h12, h13⟩ := h
  have hold : ∀ x ∈ (entsL fk fv kf l bs).toArray.toList, x.born < s := fun x hx => by
    obtain ⟨i, y, b, _, hb, rfl⟩ := (ents_mem h2).1 (by simpa using hx)
    exact h9 b (List.mem_of_getElem? hb)
  rcases run_next_at w ty r g s c0 sn _ c h6 h1 hold h7 with ⟨e1, e2⟩ | ⟨e, he, w1, hw1, hrun⟩
  · refine .inl ⟨fun i hi => ?_, e2⟩
    have hall := all_seen _ _ e1
    have hx : l[i]? = some l[i] := List.getElem?_eq_getElem hi
    obtain ⟨b, hb⟩ : ∃ b, bs[i]? = some b := ⟨_, List.getElem?_eq_getElem (by rw [h2]; exact hi)⟩
    have := hall { key := fk (kf l[i]), val := fv l[i], born := b } (by simpa using (ents_mem h2).2 ⟨i, _, b, hx, hb, rfl⟩)
    exact (h12 i b hb).1 this
  · obtain ⟨i, x, b, hx, hb, rfl, hs⟩ := leftOf_mem h2 he
    have hi : i ∉ idxs := fun hi => by rw [(h12 i b hb).2 hi] at hs; cases hs
    have hw1h : w1.heap = w.heap := by rcases hw1 with rfl | rfl <;> rfl
    have hgr : (ChangeMaps.setBlock w1 r (.mapIter (some g) s (sn.push b) c)).heap[g]? = some (.map (entsL fk fv kf l bs).toArray c) := by
      unfold ChangeMaps.setBlock
      simp only
      rw [Array.getElem?_setIfInBounds, if_neg (fun e => hlt.2.2 e.symm), hw1h]; exact h1
    have hrr : (ChangeMaps.setBlock w1 r (.mapIter (some g) s (sn.push b) c)).heap[r]? = some (.mapIter (some g) s (sn.push b) c) := by
      unfold ChangeMaps.setBlock
      simp only
      rw [Array.getElem?_setIfInBounds, if_pos rfl, if_pos (by rw [hw1h]; exact hlt.2.1)]
    have hsz : (ChangeMaps.setBlock w1 r (.mapIter (some g) s (sn.push b) c)).heap.size = w.heap.size := by unfold ChangeMaps.setBlock; simp [hw1h]
    have hoth : ∀ k, k ≠ r → (ChangeMaps.setBlock w1 r (.mapIter (some g) s (sn.push b) c)).heap[k]? = w.heap[k]? := fun k hk => by
      unfold ChangeMaps.setBlock
      simp only
      rw [Array.getElem?_setIfInBounds, if_neg (fun e => hk e.symm), hw1h]
    have hrest : (ChangeMaps.setBlock w1 r (.mapIter (some g) s (sn.push b) c)).os = w.os ∧ (ChangeMaps.setBlock w1 r (.mapIter (some g) s (sn.push b) c)).tape = w.tape ∧ (ChangeMaps.setBlock w1 r (.mapIter (some g) s (sn.push b) c)).output = w.output := by
      rcases hw1 with rfl | rfl <;> exact ⟨rfl, rfl, rfl⟩
    refine .inr ⟨i, x, _, hx, hi, hrun, ⟨bs, c, s, sn.push b, c, hgr, h2, h3, h4, h5, hrr, h8, h8, h9, ?_, ?_, ?_, by simp [h13]⟩, fun u iu => ?_, ?_, hsz, fun B hB => ?_⟩
    · exact List.nodup_append.2 ⟨h10, by simp, fun a ha b' hb' => by rw [List.mem_singleton] at hb'; subst hb'; exact fun e => hi (e ▸ ha)⟩
    · intro j hj
      rcases List.mem_append.1 hj with hj | hj
      · exact h11 j hj
      · rw [List.mem_singleton] at hj; subst hj; exact (List.getElem?_eq_some_iff.1 hx).1
    · intro j b' hb'
      rw [Array.contains_push, List.mem_append, List.mem_singleton, Bool.or_eq_true, h12 j b' hb', beq_iff_eq]
      constructor
      · rintro (h | h)
        · exact .inl h
        · subst h; exact .inr (nodup_at' h3 hb' hb)
      · rintro (h | h)
        · exact .inl h
        · subst h; rw [hb] at hb'; injection hb' with hb'; exact .inr hb'.symm
    · refine run_entry_at u r g s sn _ c { key := fk (kf x), val := fv x, born := b } (blk_below hrr iu.below) (blk_below hgr iu.below) (by simpa using (ents_mem h2).2 ⟨i, x, b, hx, hb, rfl⟩) ?_
      have := ents_born (fk := fk) (fv := fv) (kf := kf) h2
      rw [List.toList_toArray] 
      rw [this]; exact h3
    · exact ⟨hrest.1, hrest.2.1, hrest.2.2, by rw [hsz]; exact Nat.le_refl _, fun k _ hk => hoth k (fun e => hk (by rw [e]))⟩
    · exact ⟨hrest.1, hrest.2.1, hrest.2.2, by rw [hsz]; exact Nat.le_refl _, fun k hk => hoth k (by omega)⟩
theorem pick_range : ∀ (l : List α), pickL l (List.range l.length) = l := by
  intro l
  have key : ∀ (n : Nat), n ≤ l.length → pickL l (List.range n) = l.take n := by
    intro n
    induction n with
    | zero => intro _; simp [pickL]
    | succ n ih =>
      intro hn
      have hx : l[n]? = some (l[n]'(by omega)) := List.getElem?_eq_getElem _
      unfold pickL at ih ⊢
      rw [List.range_succ, List.filterMap_append, ih (by omega), List.take_add_one, hx]
      simp [hx]
  rw [key _ (Nat.le_refl _), List.take_length]
/-- What has come, when all has: the list, in some order. -/
theorem pick_all (hn : idxs.Nodup) (hlt : ∀ i ∈ idxs, i < l.length) (hall : ∀ i, i < l.length → i ∈ idxs) : (pickL l idxs).Perm l := by
  have hp : idxs.Perm (List.range l.length) := (List.perm_ext_iff_of_nodup hn List.nodup_range).2 fun i => by rw [List.mem_range]; exact ⟨hlt i, hall i⟩
  have h1 : (pickL l idxs).Perm (pickL l (List.range l.length)) := hp.filterMap _
  exact h1.trans (List.Perm.of_eq (pick_range l))
theorem RangeL.facts (h : RangeL fk fv kf w g r l idxs) : idxs.Nodup ∧ ∀ i ∈ idxs, i < l.length := by
  obtain ⟨bs, c, s, sn, c0, h1, h2, h3, h4, h5, h6, h7, h8, h9, h10, h11, h12, h13⟩ := h
  exact ⟨h10, h11⟩
theorem RangeL.seen (h : RangeL fk fv kf w g r l idxs) : (w.iterSeen r).size = idxs.length := by
  obtain ⟨bs, c, s, sn, c0, h1, h2, h3, h4, h5, h6, h7, h8, h9, h10, h11, h12, h13⟩ := h
  unfold World.iterSeen
  rw [h6]; exact h13
theorem nodup_lenR {n : Nat} {idxs : List Nat} (h : idxs.Nodup) (hlt : ∀ i ∈ idxs, i < n) : idxs.length ≤ n := by
  have hp : idxs.Perm ((List.range n).filter fun i => decide (i ∈ idxs)) := (List.perm_ext_iff_of_nodup h (List.nodup_range.filter _)).2 fun i => by
    rw [List.mem_filter, List.mem_range, decide_eq_true_eq]
    exact ⟨fun hi => ⟨hlt i hi, hi⟩, fun hi => hi.2⟩
  have := List.length_filter_le (fun i => decide (i ∈ idxs)) (List.range n)
  rw [List.length_range] at this
  rw [hp.length_eq]; exact this
theorem RangeL.len (h : RangeL fk fv kf w g r l idxs) : idxs.length ≤ l.length := nodup_lenR h.facts.1 h.facts.2
/-- A store at a key that is there: the range goes on. -/
theorem RangeL.put [DecidableEq κ] {P : Program} {kt et t : TypeId} (L : KeyL P kt fk) (ht : P.underlying t = some (.map kt et)) (h : RangeL fk fv kf w g r l idxs) {j : Nat} {x v : α} (hx : l[j]? = some x) (hk : kf x = kf v) : ∃ o : Obj,
    (∀ (u : World) [Later w u], (Instr.mapUpdate t (.map (some g)) (fk (kf v)) (fv v)).run P u = .ok () (putAt u g o)) ∧ (∀ (u : World) [Later w u], RangeL fk fv kf (putAt u g o) g r (l.set j v) idxs) ∧
    (∀ (u : World) [Later w u] a, (putAt u g o).cell? a = u.cell? a) ∧ (∀ (u : World) [Later w u] a, (putAt u g o).frozen? a = u.frozen? a) := by
  obtain ⟨o, o1, o2, o3, o4⟩ := run_putL L ht h.mapL v
  have hlt := h.lt
  have hpk := putK_old h.mapL.nodup hx hk
  rw [hpk] at o2
  obtain ⟨bs, c, s, sn, c0, h1, h2, h3, h4, h5, h6, h7, h8, h9, h10, h11, h12, h13⟩ := h
  have hl2 : (l.set j v).length = l.length := List.length_set
  have hent : o = .map (entsL fk fv kf (l.set j v) bs).toArray c := by
    have hjl := (List.getElem?_eq_some_iff.1 hx).1
    obtain ⟨b, hbj⟩ : ∃ b, bs[j]? = some b := ⟨_, List.getElem?_eq_getElem (by rw [h2]; exact hjl)⟩
    have hrun := o1 w
    rcases MapL.find (fv := fv) (kf := kf) L h2 h5 (kf v) with ⟨e1, e2⟩ | ⟨j', x', e1, e2, e3⟩
    · exact absurd hk (e2 x (List.mem_of_getElem? hx))
    · have hjj : j' = j := nodup_at h5 e2 hx (e3.trans hk.symm)
      subst hjj
      rw [hx] at e2; injection e2 with e2; subst e2
      have hej := (ents_get (fk := fk) (fv := fv) (kf := kf) h2).2 ⟨x, b, hx, hbj, rfl⟩
      have hmod : (entsL fk fv kf l bs).modify j' (fun e => { e with key := fk (kf v), val := fv v }) = entsL fk fv kf (l.set j' v) bs := by
        apply List.ext_getElem?
        intro i
        rw [List.getElem?_modify]
        by_cases hij : j' = i
        · subst hij
          rw [hej, (ents_get (fk := fk) (fv := fv) (kf := kf) (by rw [hl2]; exact h2)).2 ⟨v, b, List.getElem?_set_self hjl, hbj, rfl⟩]
          simp
        · simp only [if_neg hij]
          cases hi : (entsL fk fv kf l bs)[i]? with
          | none =>
            symm
            show _ = none
            rw [List.getElem?_eq_none_iff] at hi ⊢
            rw [ents_length (by rw [hl2]; exact h2), hl2]
            rw [ents_length h2] at hi; exact hi
          | some e =>
            obtain ⟨x', b', hx', hb', rfl⟩ := (ents_get h2).1 hi
            symm
            exact (ents_get (by rw [hl2]; exact h2)).2 ⟨x', b', by rw [List.getElem?_set_ne hij]; exact hx', hb', rfl⟩
      simp [Instr.mapUpdate, run_underlying ht, MapKept.run_getObj_map h1, L.check, e1, Result.andThen, hej, hk, L.stays, MapKept.run_setObj_map _ h1, putAt] at hrun
      have hg := congrArg (fun a : Array Obj => a[g]?) hrun
      simp only [Array.getElem?_setIfInBounds, if_pos, hlt.1] at hg
      injection hg with hg
      rw [← hg, ← hmod]
  subst hent
  refine ⟨_, o1, fun u i => ⟨bs, c, s, sn, c0, ?_, by rw [hl2]; exact h2, h3, h4, ?_, ?_, h7, h8, h9, h10, by rw [hl2]; exact h11, h12, h13⟩, o3, o4⟩
  · unfold putAt
    rw [Array.getElem?_setIfInBounds, if_pos rfl, if_pos (Nat.lt_of_lt_of_le hlt.1 i.below.size)]
  · have := (o2 u).nodup; exact this
  · unfold putAt
    simp only
    rw [Array.getElem?_setIfInBounds, if_neg hlt.2.2]
    exact blk_below h6 i.below
end
end Go.Proofs.YtpkfenlfgdbkcaaGreatDoor

namespace Go.Proofs.YtpkfenlfgdbkcaaGreatDoor
section
variable {κ α : Type} [DecidableEq κ] {kf : α → κ}
theorem findK_some {l : List α} {k : κ} {x : α} (h : findK kf l k = some x) : x ∈ l ∧ kf x = k := by
  unfold findK at h
  exact ⟨List.mem_of_find?_eq_some h, by simpa using List.find?_some h⟩
theorem findK_no {l : List α} {k : κ} (h : findK kf l k = none) : ∀ x ∈ l, kf x ≠ k := by
  unfold findK at h
  intro x hx
  simpa using List.find?_eq_none.1 h x hx
theorem findK_setAll {v : α} {k : κ} : ∀ (l : List α), findK kf (l.map fun x => if kf x = kf v then v else x) k = if k = kf v then (if (l.any fun x => decide (kf x = kf v)) then some v else none) else findK kf l k
  | [] => by simp [findK]
  | x :: l => by
    have ih := findK_setAll (v := v) (k := k) l
    unfold findK at ih ⊢
    rw [List.map_cons, List.find?_cons, List.find?_cons, List.any_cons, ih]
    by_cases hk : k = kf v
    · subst hk
      by_cases hx : kf x = kf v
      · simp [hx]
      · simp [hx]
    · by_cases hx : kf x = kf v
      · simp [hx, hk, Ne.symm hk]
      · simp [hx, hk]
theorem findK_put {l : List α} {v : α} {k : κ} : findK kf (putK kf l v) k = if k = kf v then some v else findK kf l k := by
  unfold putK
  split
  · next h => rw [findK_setAll, h]; simp
  · next h =>
    have hno : ∀ x ∈ l, kf x ≠ kf v := by simpa using h
    unfold findK
    rw [List.find?_append]
    by_cases hk : k = kf v
    · subst hk
      rw [List.find?_eq_none.2 (by simpa using hno)]
      simp
    · simp [hk, Ne.symm hk]
theorem putK_mem {l : List α} {v x : α} (h : x ∈ putK kf l v) : x = v ∨ x ∈ l := by
  unfold putK at h
  split at h
  · obtain ⟨y, hy, rfl⟩ := List.mem_map.1 h
    split
    · exact .inl rfl
    · exact .inr hy
  · rcases List.mem_append.1 h with h | h
    · exact .inr h
    · exact .inl (List.mem_singleton.1 h)
theorem putK_len {l : List α} {v : α} : (putK kf l v).length ≤ l.length + 1 := by
  unfold putK
  split <;> simp
end
/-- The map's nodes are those of the sorted list. -/
def RelU (l : List NodeE) (q : List NodeC) : Prop := SortedN q ∧ ∀ x, (findK NodeE.id l x).map NodeE.con = firstN q x
theorem con_id (n : NodeE) : n.con.id = n.id := rfl
theorem relU_nil : RelU [] [] := ⟨nil_sorted, fun x => rfl⟩
theorem relU_put {l : List NodeE} {q q' : List NodeC} {n : NodeE} (h : RelU l q) (hs : SortedN q') (hq : ∀ x, firstN q' x = if x = n.id then some n.con else firstN q x) : RelU (putK NodeE.id l n) q' := ⟨hs, fun x => by
  rw [findK_put, hq]
  split
  · rfl
  · exact h.2 x⟩
theorem relU_keep {l : List NodeE} {q q' : List NodeC} {m : NodeE} {x0 : IDE} (h : RelU l q) (hm : findK NodeE.id l x0 = some m) (hs : SortedN q') (hq : ∀ x, firstN q' x = if x = x0 then some m.con else firstN q x) : RelU l q' := ⟨hs, fun x => by
  rw [hq]
  split
  · next e => rw [e, hm]; rfl
  · exact h.2 x⟩
structure InvU (gs : List GrE) (pre : List NodeC) (l : List NodeE) (q : List NodeC) : Prop where
  p : putAll [] pre = some q
  r : RelU l q
  n : l.length ≤ pre.length
  m : ∀ x ∈ l, ∃ g ∈ gs, x ∈ g.l
theorem putAll_snoc {pre q : List NodeC} {n : NodeC} (h : putAll [] pre = some q) : putAll [] (pre ++ [n]) = putN q n := by
  rw [putAll_app, h]
  show putAll q [n] = _
  unfold putAll
  cases putN q n with
  | none => rfl
  | some q' => rfl
theorem invU_put {gs : List GrE} {pre q q' : List NodeC} {l : List NodeE} {n : NodeE} {g : GrE} (h : InvU gs pre l q) (hg : g ∈ gs) (hn : n ∈ g.l) (hp : putN q n.con = some q') (hs : SortedN q') (hq : ∀ x, firstN q' x = if x = n.id then some n.con else firstN q x) :
    InvU gs (pre ++ [n.con]) (putK NodeE.id l n) q' :=
  ⟨by rw [putAll_snoc h.p, hp], relU_put h.r hs hq, by have h1 := h.n; have h2 := putK_len (kf := NodeE.id) (l := l) (v := n); rw [List.length_append, List.length_singleton]; omega, fun x hx => by
    rcases putK_mem hx with rfl | hx
    · exact ⟨g, hg, hn⟩
    · exact h.m x hx⟩
theorem invU_new {gs : List GrE} {pre : List NodeC} {l : List NodeE} {n : NodeE} {g : GrE} (h : ∃ q, InvU gs pre l q) (hg : g ∈ gs) (hn : n ∈ g.l) (hf : findK NodeE.id l n.id = none) : ∃ q, InvU gs (pre ++ [n.con]) (putK NodeE.id l n) q := by
  obtain ⟨q, h⟩ := h
  have hs := putN_spec h.r.1 n.con
  have e := h.r.2 n.id
  rw [hf] at e
  rw [con_id, ← e] at hs
  obtain ⟨q', h1, h2, -, h3⟩ := hs
  exact ⟨q', invU_put h hg hn h1 h2 h3⟩
theorem invU_some {gs : List GrE} {pre q : List NodeC} {l : List NodeE} {n m : NodeE} (h : InvU gs pre l q) (hf : findK NodeE.id l n.id = some m) :
    (mergeN m.con n.con = none → putN q n.con = none) ∧ ∀ x, mergeN m.con n.con = some x → ∃ q', putN q n.con = some q' ∧ SortedN q' ∧ ∀ y, firstN q' y = if y = n.id then some x else firstN q y := by
  have hs := putN_spec h.r.1 n.con
  have e := h.r.2 n.id
  rw [hf] at e
  rw [con_id, ← e] at hs
  refine ⟨hs.1, fun x hx => ?_⟩
  obtain ⟨q', h1, h2, -, h3⟩ := hs.2 x hx
  exact ⟨q', h1, h2, h3⟩
theorem invU_over {gs : List GrE} {pre : List NodeC} {l : List NodeE} {n m : NodeE} {g : GrE} (h : ∃ q, InvU gs pre l q) (hg : g ∈ gs) (hn : n ∈ g.l) (hf : findK NodeE.id l n.id = some m) (hm : mergeN m.con n.con = some n.con) : ∃ q, InvU gs (pre ++ [n.con]) (putK NodeE.id l n) q := by
  obtain ⟨q, h⟩ := h
  obtain ⟨q', h1, h2, h3⟩ := (invU_some h hf).2 _ hm
  exact ⟨q', invU_put h hg hn h1 h2 h3⟩
theorem invU_keep {gs : List GrE} {pre : List NodeC} {l : List NodeE} {n m : NodeE} (h : ∃ q, InvU gs pre l q) (hf : findK NodeE.id l n.id = some m) (hm : mergeN m.con n.con = some m.con) : ∃ q, InvU gs (pre ++ [n.con]) l q := by
  obtain ⟨q, h⟩ := h
  obtain ⟨q', h1, h2, h3⟩ := (invU_some h hf).2 _ hm
  exact ⟨q', by rw [putAll_snoc h.p, h1], relU_keep h.r hf h2 h3, by have := h.n; rw [List.length_append]; omega, h.m⟩
theorem invU_fail {gs : List GrE} {pre post : List NodeC} {l : List NodeE} {n m : NodeE} (h : ∃ q, InvU gs pre l q) (hf : findK NodeE.id l n.id = some m) (hm : mergeN m.con n.con = none) : putAll [] (pre ++ n.con :: post) = none := by
  obtain ⟨q, h⟩ := h
  have h1 := (invU_some h hf).1 hm
  rw [putAll_app, h.p]
  show putAll q (n.con :: post) = none
  unfold putAll
  rw [h1]
theorem merge_keep {a b : NodeC} (hk : ¬ (a.kind = 3 ↔ b.kind = 3)) (hc : a.clas = b.clas) (h3 : a.kind ≠ 3) : mergeN a b = some a := by
  unfold mergeN; rw [if_neg hk, if_pos hc, if_neg h3]
theorem merge_over {a b : NodeC} (hk : ¬ (a.kind = 3 ↔ b.kind = 3)) (hc : a.clas = b.clas) (h3 : a.kind = 3) : mergeN a b = some b := by
  unfold mergeN; rw [if_neg hk, if_pos hc, if_pos h3]
theorem merge_clas {a b : NodeC} (hk : ¬ (a.kind = 3 ↔ b.kind = 3)) (hc : a.clas ≠ b.clas) : mergeN a b = none := by
  unfold mergeN; rw [if_neg hk, if_neg hc]
theorem merge_same {a b : NodeC} (hk : a.kind = 3 ↔ b.kind = 3) (h : a = b) : mergeN a b = some a := by
  unfold mergeN; rw [if_pos hk, if_pos h]
theorem merge_diff {a b : NodeC} (hk : a.kind = 3 ↔ b.kind = 3) (h : a ≠ b) : mergeN a b = none := by
  unfold mergeN; rw [if_pos hk, if_neg h]
/-- A sorted list of the map's nodes is the sorted list. -/
theorem relU_sorted {l : List NodeE} {q o : List NodeC} (h : RelU l q) (hn : (l.map NodeE.id).Nodup) (hp : o.Perm (l.map NodeE.con)) (hs : SortedN o) : o = q := by
  refine sortedN_unique hs h.1 fun x => ?_
  rw [← h.2 x]
  cases hf : findK NodeE.id l x with
  | none =>
    refine firstN_none.2 fun a ha => ?_
    obtain ⟨m, hm, rfl⟩ := List.mem_map.1 (hp.subset ha)
    exact findK_no hf m hm
  | some m =>
    obtain ⟨h1, h2⟩ := findK_some hf
    have := firstN_mem hs (hp.symm.subset (List.mem_map.2 ⟨m, h1, rfl⟩))
    rw [con_id, h2] at this
    exact this
end Go.Proofs.YtpkfenlfgdbkcaaGreatDoor

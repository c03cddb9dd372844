/-
  Small texts of this seat, put into one. Conditions stand in each theorem.
-/
import Derived.Test.YtomgdkfoinojiaaGrpA
import Derived.Sort.LotA
import Derived.Test.YtomgdkfoinojiaaS32Cmp
import Derived.Test.YtomgdkfoinojiaaS32Walk1
import Derived.Test.YtomgdkfoinojiaaGPlain
set_option linter.unusedSimpArgs false
set_option linter.unusedVariables false
namespace Go.Proofs.Ytomgdkfoinojiaa
open Go.Sort

section
variable {α : Type} (lt : α → α → Bool)
def eqv (z x : α) : Bool := !lt z x && !lt x z
/-- l' has, for each class of equals, the elements of l in their order. -/
def Stb (l l' : List α) : Prop := ∀ z, l'.filter (eqv lt z) = l.filter (eqv lt z)
def Srt (l : List α) : Prop := l.Pairwise (fun x y => lt y x = false)
end
section
variable {α : Type} {lt : α → α → Bool} {l l' l'' m m' X Y X1 X2 Y1 Y2 Z1 Z2 : List α}
theorem Stb.refl : Stb lt l l := fun _ => rfl
theorem Stb.trans (h : Stb lt l l') (k : Stb lt l' l'') : Stb lt l l'' := fun z => (k z).trans (h z)
theorem Stb.app (h : Stb lt l l') (k : Stb lt m m') : Stb lt (l ++ m) (l' ++ m') := fun z => by rw [List.filter_append, List.filter_append, h z, k z]
theorem eqv_self (O : SWO lt) (x : α) : eqv lt x x = true := by simp [eqv, O.irrefl]
/-- Neighbouring parts change places where each of the second is less than each of the first. -/
theorem Stb.swap (O : SWO lt) (h : ∀ x ∈ X, ∀ y ∈ Y, lt y x = true) : Stb lt (X ++ Y) (Y ++ X) := fun z => by
  rw [List.filter_append, List.filter_append]
  by_cases hx : X.filter (eqv lt z) = []
  · rw [hx]; simp
  · have hy : Y.filter (eqv lt z) = [] := by
      rw [List.filter_eq_nil_iff]
      intro y hy hz
      obtain ⟨x, hxm⟩ := List.exists_mem_of_ne_nil _ hx
      obtain ⟨hxX, hxz⟩ := List.mem_filter.1 hxm
      have h1 := h x hxX y hy
      simp only [eqv, Bool.and_eq_true, Bool.not_eq_true'] at hz hxz
      have := O.ntrans y z x hz.2 hxz.1
      rw [h1] at this; cases this
    rw [hy]; simp
theorem Stb.mem (O : SWO lt) (h : Stb lt l l') {x : α} : x ∈ l' ↔ x ∈ l := by
  have : ∀ k : List α, x ∈ k ↔ x ∈ k.filter (eqv lt x) := fun k => by rw [List.mem_filter]; simp [eqv_self O x]
  rw [this l', this l, h x]
theorem Stb.perm (O : SWO lt) (h : Stb lt l l') : l'.Perm l := by
  classical
  rw [List.perm_iff_count]
  intro x
  rw [← List.count_filter (eqv_self O x) (l := l'), ← List.count_filter (eqv_self O x) (l := l), h x]
theorem Stb.length (O : SWO lt) (h : Stb lt l l') : l'.length = l.length := (h.perm O).length_eq
theorem Stb.uniq (O : SWO lt) : ∀ {l l' : List α}, Stb lt l l' → Srt lt l → Srt lt l' → l = l' := by
  intro l
  induction l with
  | nil => intro l' h _ _; have := h.length O; exact (List.eq_nil_of_length_eq_zero (by simpa using this)).symm
  | cons x l ih =>
    intro l' h h1 h2
    cases l' with
    | nil => exact absurd (h.length O) (by simp)
    | cons y l' =>
      have hx : x ∈ y :: l' := (h.mem O).2 (List.mem_cons_self ..)
      have hy : y ∈ x :: l := (h.mem O).1 (List.mem_cons_self ..)
      have a1 : lt x y = false := by
        rcases List.mem_cons.1 hx with e | e
        · rw [e]; exact O.irrefl _
        · exact List.rel_of_pairwise_cons h2 e
      have a2 : lt y x = false := by
        rcases List.mem_cons.1 hy with e | e
        · rw [e]; exact O.irrefl _
        · exact List.rel_of_pairwise_cons h1 e
      have hz := h x
      have e1 : eqv lt x x = true := eqv_self O x
      have e2 : eqv lt x y = true := by simp [eqv, a1, a2]
      rw [List.filter_cons_of_pos e1, List.filter_cons_of_pos e2] at hz
      injection hz with hxy _
      subst hxy
      have ht : Stb lt l l' := fun z => by
        have := h z
        cases hb : eqv lt z y with
        | true => rw [List.filter_cons_of_pos hb, List.filter_cons_of_pos hb] at this; injection this
        | false => rwa [List.filter_cons_of_neg (by simp [hb]), List.filter_cons_of_neg (by simp [hb])] at this
      rw [ih ht h1.tail h2.tail]
/-- What a merge does, once the places to part at are found. -/
theorem merge_step (O : SWO lt) (hX : Srt lt (X1 ++ X2)) (hY : Srt lt (Y1 ++ Y2)) (h1 : ∀ x ∈ X2, ∀ y ∈ Y1, lt y x = true) (h2 : ∀ x ∈ X1, ∀ y ∈ Y2, lt y x = false)
    (z1 : Srt lt Z1) (s1 : Stb lt (X1 ++ Y1) Z1) (z2 : Srt lt Z2) (s2 : Stb lt (X2 ++ Y2) Z2) : Srt lt (Z1 ++ Z2) ∧ Stb lt ((X1 ++ X2) ++ (Y1 ++ Y2)) (Z1 ++ Z2) := by
  have pX := List.pairwise_append.1 hX
  have pY := List.pairwise_append.1 hY
  refine ⟨List.pairwise_append.2 ⟨z1, z2, fun a ha b hb => ?_⟩, ?_⟩
  · rw [s1.mem O, List.mem_append] at ha
    rw [s2.mem O, List.mem_append] at hb
    rcases ha with ha | ha <;> rcases hb with hb | hb
    · exact pX.2.2 a ha b hb
    · exact h2 a ha b hb
    · have := h1 b hb a ha
      cases hba : lt b a with
      | false => rfl
      | true => have := O.trans a b a this hba; rw [O.irrefl] at this; cases this
    · exact pY.2.2 a ha b hb
  · have e : Stb lt ((X1 ++ X2) ++ (Y1 ++ Y2)) ((X1 ++ Y1) ++ (X2 ++ Y2)) := by
      have := (Stb.refl (lt := lt) (l := X1)).app ((Stb.swap O h1).app (Stb.refl (lt := lt) (l := Y2)))
      simpa [List.append_assoc] using this
    exact e.trans (s1.app s2)
/-- One element laid into a sorted list, behind its equals. -/
theorem insert_step (O : SWO lt) {y : α} (hX : Srt lt (X1 ++ X2)) (h1 : ∀ x ∈ X2, lt y x = true) (h2 : ∀ x ∈ X1, lt y x = false) : Srt lt (X1 ++ y :: X2) ∧ Stb lt ((X1 ++ X2) ++ [y]) (X1 ++ y :: X2) := by
  have pX := List.pairwise_append.1 hX
  have h1' : ∀ x ∈ X2, lt x y = false := fun x hx => by
    cases hxy : lt x y with
    | false => rfl
    | true => have := O.trans y x y (h1 x hx) hxy; rw [O.irrefl] at this; cases this
  refine ⟨List.pairwise_append.2 ⟨pX.1, List.pairwise_cons.2 ⟨h1', pX.2.1⟩, fun a ha b hb => ?_⟩, ?_⟩
  · rcases List.mem_cons.1 hb with rfl | hb
    · exact h2 a ha
    · exact pX.2.2 a ha b hb
  · have := (Stb.refl (lt := lt) (l := X1)).app (Stb.swap (X := X2) (Y := [y]) O (fun x hx z hz => by rw [List.mem_singleton] at hz; rw [hz]; exact h1 x hx))
    simpa [List.append_assoc] using this
end

/-! ### Arrays as lists -/
section
variable {α : Type} [Inhabited α] {lt : α → α → Bool} {d d' : Array α} {A B C : List α} {x y : α} {i j : Nat}
theorem nth_at (h : d.toList = A ++ x :: B) (hi : i = A.length) : d[i]! = x := by
  have hl : i < d.size := by rw [← Array.length_toList, h]; simp; omega
  rw [getElem!_pos d i hl]
  have : d.toList[i]? = some x := by rw [h, hi]; simp
  rw [Array.getElem?_toList, Array.getElem?_eq_getElem hl] at this
  exact Option.some.inj this
theorem nth_mem (h : d.toList = A ++ (B ++ C)) (h1 : A.length ≤ i) (h2 : i < A.length + B.length) : d[i]! ∈ B := by
  have hl : i < d.size := by rw [← Array.length_toList, h]; simp; omega
  rw [getElem!_pos d i hl, ← Array.getElem_toList]
  have : d.toList[i]? = B[i - A.length]? := by
    rw [h, List.getElem?_append_right h1, List.getElem?_append_left (by omega)]
  have hb : i - A.length < B.length := by omega
  rw [List.getElem?_eq_getElem (by rw [Array.length_toList]; exact hl), List.getElem?_eq_getElem hb] at this
  rw [Option.some.inj this]
  exact List.getElem_mem hb
theorem swp_comm (d : Array α) {i j : Nat} (hi : i < d.size) (hj : j < d.size) : swp d i j = swp d j i := by
  by_cases h : i = j
  · rw [h]
  · apply Array.ext_getElem?
    intro k
    unfold swp
    simp only [Array.getElem?_setIfInBounds, Array.size_setIfInBounds]
    by_cases hki : i = k
    · subst hki
      rw [if_neg (fun e => h e.symm), if_pos rfl, if_pos rfl]
    · by_cases hkj : j = k
      · subst hkj; simp [h]
      · simp [hki, hkj]
theorem swp_list (h : d.toList = A ++ x :: (B ++ y :: C)) (hi : i = A.length) (hj : j = A.length + 1 + B.length) : (swp d i j).toList = A ++ y :: (B ++ x :: C) := by
  have hx : d[i]! = x := nth_at h hi
  have hy : d[j]! = y := nth_at (A := A ++ x :: B) (B := C) (by rw [h]; simp) (by rw [hj]; simp; omega)
  unfold swp
  rw [hx, hy, Array.toList_setIfInBounds, Array.toList_setIfInBounds, h, hi, hj]
  rw [List.set_append_right _ _ (Nat.le_refl _), Nat.sub_self, List.set_cons_zero, List.set_append_right _ _ (by omega)]
  rw [show A.length + 1 + B.length - A.length = B.length + 1 by omega, List.set_cons_succ, List.set_append_right _ _ (Nat.le_refl _), Nat.sub_self, List.set_cons_zero]
theorem swp_list' (h : d.toList = A ++ x :: (B ++ y :: C)) (hi : i = A.length) (hj : j = A.length + 1 + B.length) : (swp d j i).toList = A ++ y :: (B ++ x :: C) := by
  have hl : d.size = A.length + 1 + B.length + 1 + C.length := by rw [← Array.length_toList, h]; simp; omega
  rw [swp_comm d (by omega) (by omega)]
  exact swp_list h hi hj

/-- A part of the array that is sorted, by places. -/
theorem srt_part (h : d.toList = A ++ (B ++ C)) (hs : Srt lt B) {p q : Nat} (h1 : A.length ≤ p) (h2 : p < q) (h3 : q < A.length + B.length) : lt d[q]! d[p]! = false := by
  have hl : A.length + B.length ≤ d.size := by rw [← Array.length_toList, h, List.length_append, List.length_append]; omega
  have e : ∀ k (h1 : A.length ≤ k) (h2 : k < A.length + B.length), d[k]! = B[k - A.length]'(by omega) := fun k k1 k2 => by
    rw [getElem!_pos d k (by omega), ← Array.getElem_toList]
    have : d.toList[k]? = B[k - A.length]? := by rw [h, List.getElem?_append_right k1, List.getElem?_append_left (by omega)]
    rw [List.getElem?_eq_getElem (by rw [Array.length_toList]; omega), List.getElem?_eq_getElem (by omega)] at this
    exact Option.some.inj this
  rw [e p h1 (by omega), e q (by omega) h3]
  exact List.pairwise_iff_getElem.1 hs _ _ _ _ (by omega)
theorem srt_le (O : SWO lt) (h : d.toList = A ++ (B ++ C)) (hs : Srt lt B) {p q : Nat} (h1 : A.length ≤ p) (h2 : p ≤ q) (h3 : q < A.length + B.length) : lt d[q]! d[p]! = false := by
  rcases Nat.lt_or_ge p q with hlt | hge
  · exact srt_part h hs h1 hlt h3
  · rw [show p = q by omega]; exact O.irrefl _

/-! ### Insertion, as the kit's plain words say it -/
theorem swp_stb (O : SWO lt) (hj : j + 1 < d.size) (hl : lt d[j + 1]! d[j]! = true) : Stb lt d.toList (swp d (j + 1) j).toList := by
  have hlen : j + 1 < d.toList.length := by simpa using hj
  have e : d.toList = d.toList.take j ++ d[j]! :: ([] ++ d[j + 1]! :: d.toList.drop (j + 2)) := by
    rw [getElem!_pos d j (by omega), getElem!_pos d (j + 1) hj, ← Array.getElem_toList, ← Array.getElem_toList, List.nil_append, ← List.drop_eq_getElem_cons, ← List.drop_eq_getElem_cons, List.take_append_drop]
  have hs : (swp d (j + 1) j).toList = d.toList.take j ++ d[j + 1]! :: ([] ++ d[j]! :: d.toList.drop (j + 2)) := swp_list' (i := j) (j := j + 1) e (by simp; omega) (by simp; omega)
  rw [hs]
  have : Stb lt (d.toList.take j ++ ([d[j]!] ++ [d[j + 1]!]) ++ d.toList.drop (j + 2)) (d.toList.take j ++ ([d[j + 1]!] ++ [d[j]!]) ++ d.toList.drop (j + 2)) :=
    (Stb.refl.app (Stb.swap O (fun a ha b hb => by rw [List.mem_singleton] at ha hb; rw [ha, hb]; exact hl))).app Stb.refl
  simp only [List.append_assoc, List.singleton_append, List.nil_append, List.cons_append] at this ⊢
  simp only [List.nil_append] at e
  rw [← e] at this
  exact this
theorem insInner_stb (O : SWO lt) (a : Nat) : ∀ (j : Nat) (d : Array α), j < d.size → Stb lt d.toList (insInner lt a j d).toList ∧ (insInner lt a j d).size = d.size := by
  intro j
  induction j with
  | zero => intro d _; rw [insInner]; exact ⟨Stb.refl, rfl⟩
  | succ j ih =>
    intro d hj
    rw [insInner]
    split
    · rename_i h
      rw [Bool.and_eq_true] at h
      have := ih (swp d (j + 1) j) (by rw [size_swp]; omega)
      exact ⟨(swp_stb O hj h.2).trans this.1, this.2.trans (size_swp ..)⟩
    · exact ⟨Stb.refl, rfl⟩
theorem insOuter_stb (O : SWO lt) (a b : Nat) : ∀ (n i : Nat) (d : Array α), b - i ≤ n → b ≤ d.size → Stb lt d.toList (insOuter lt a b i d).toList ∧ (insOuter lt a b i d).size = d.size := by
  intro n
  induction n with
  | zero => intro i d h _; rw [insOuter, if_neg (by omega)]; exact ⟨Stb.refl, rfl⟩
  | succ n ih =>
    intro i d h hb
    rw [insOuter]
    split
    · have h1 := insInner_stb O a i d (by omega)
      have h2 := ih (i + 1) (insInner lt a i d) (by omega) (by rw [h1.2]; exact hb)
      exact ⟨h1.1.trans h2.1, h2.2.trans h1.2⟩
    · exact ⟨Stb.refl, rfl⟩
/-- What insertion leaves: the part is sorted, the rest untouched, the whole alike. -/
theorem insertion_part (O : SWO lt) (h : d.toList = A ++ (B ++ C)) : ∃ Z, (insertionSort lt d A.length (A.length + B.length)).toList = A ++ (Z ++ C) ∧ Z.length = B.length ∧ Srt lt Z ∧ Stb lt d.toList (A ++ (Z ++ C)) := by
  have hl : d.size = A.length + B.length + C.length := by rw [← Array.length_toList, h]; simp; omega
  obtain ⟨⟨hs, hout, _⟩, hsrt⟩ := insertionSort_holds O d A.length (A.length + B.length) (by omega) (by omega)
  have hst := (insOuter_stb O A.length (A.length + B.length) _ (A.length + 1) d (Nat.le_refl _) (by omega)).1
  obtain ⟨e, he⟩ : ∃ e, insertionSort lt d A.length (A.length + B.length) = e := ⟨_, rfl⟩
  have hst' : Stb lt d.toList e.toList := by rw [← he]; exact hst
  rw [he] at hs hout hsrt ⊢
  have hle : e.toList.length = A.length + B.length + C.length := by rw [Array.length_toList, hs, hl]
  have at_ : ∀ k, k < e.toList.length → e.toList[k]? = some e[k]! := fun k hk => by rw [Array.getElem?_toList, Array.getElem?_eq_getElem (by simpa using hk), getElem!_pos e k (by simpa using hk)]
  have at_d : ∀ k, k < d.toList.length → d.toList[k]? = some d[k]! := fun k hk => by rw [Array.getElem?_toList, Array.getElem?_eq_getElem (by simpa using hk), getElem!_pos d k (by simpa using hk)]
  have hld : d.toList.length = A.length + B.length + C.length := by rw [Array.length_toList, hl]
  have eA : e.toList.take A.length = A := by
    apply List.ext_getElem?
    intro k
    rw [List.getElem?_take]
    split
    · rename_i hk
      rw [at_ k (by omega), hout k (.inl hk), ← at_d k (by omega), h, List.getElem?_append_left hk]
    · rw [List.getElem?_eq_none (by omega)]
  have eC : e.toList.drop (A.length + B.length) = C := by
    apply List.ext_getElem?
    intro k
    rw [List.getElem?_drop]
    rcases Nat.lt_or_ge k C.length with hk | hk
    · rw [at_ _ (by omega), hout _ (.inr (by omega)), ← at_d _ (by omega), h, List.getElem?_append_right (by omega), List.getElem?_append_right (by omega)]
      congr 1; omega
    · rw [List.getElem?_eq_none (by omega), List.getElem?_eq_none (by omega)]
  have hdec : e.toList = A ++ ((e.toList.drop A.length).take B.length ++ C) := by
    conv => lhs; rw [← List.take_append_drop A.length e.toList, eA, ← List.take_append_drop B.length (e.toList.drop A.length), List.drop_drop]
    rw [eC]
  refine ⟨(e.toList.drop A.length).take B.length, hdec, by simp [hle]; omega, ?_, by rw [← hdec]; exact hst'⟩
  unfold Srt
  rw [List.pairwise_iff_getElem]
  intro p q hp hq hpq
  have hq' : q < B.length := by simp at hq; omega
  have g : ∀ k (hk : k < B.length) (hk' : k < ((e.toList.drop A.length).take B.length).length), ((e.toList.drop A.length).take B.length)[k] = e[A.length + k]! := fun k hk hk' => by
    apply Option.some.inj
    rw [← List.getElem?_eq_getElem, List.getElem?_take, if_pos hk, List.getElem?_drop, at_ _ (by omega)]
  rw [g p (by omega), g q hq']
  exact hsrt _ _ (by omega) (by omega) (by omega)
end

/-! ### Runs -/
section
variable {α : Type} (lt : α → α → Bool)
/-- The list is made of sorted runs of b elements, and a last, shorter one. -/
inductive Runs (b : Nat) : List α → Prop
  | last (T : List α) : T.length < b → Srt lt T → Runs b T
  | cons (B R : List α) : B.length = b → Srt lt B → Runs b R → Runs b (B ++ R)
/-- .. of whole ones. -/
inductive Fulls (b : Nat) : List α → Prop
  | nil : Fulls b []
  | cons (B R : List α) : B.length = b → Srt lt B → Fulls b R → Fulls b (B ++ R)
end
section
variable {α : Type} {lt : α → α → Bool} {b : Nat} {l R B : List α}
theorem Runs.cut (h : Runs lt b l) (hl : b ≤ l.length) : ∃ B R, l = B ++ R ∧ B.length = b ∧ Srt lt B ∧ Runs lt b R := by
  cases h with
  | last T h1 _ => omega
  | cons B R h1 h2 h3 => exact ⟨B, R, rfl, h1, h2, h3⟩
theorem Runs.short (h : Runs lt b l) (hl : l.length < b) : Srt lt l := by
  cases h with
  | last T _ h1 => exact h1
  | cons B R h1 h2 h3 => simp at hl; omega
theorem Runs.whole (h : Runs lt b l) (hl : l.length ≤ b) : Srt lt l := by
  cases h with
  | last T _ h1 => exact h1
  | cons B R h1 h2 h3 =>
    have : R = [] := List.eq_nil_of_length_eq_zero (by simp at hl; omega)
    rw [this, List.append_nil]; exact h2
theorem Fulls.runs (h : Fulls lt b l) (k : Runs lt b R) : Runs lt b (l ++ R) := by
  induction h with
  | nil => exact k
  | cons B R' h1 h2 _ ih => rw [List.append_assoc]; exact .cons B _ h1 h2 ih
theorem Fulls.snoc (h : Fulls lt b l) (hb : B.length = b) (hs : Srt lt B) : Fulls lt b (l ++ B) := by
  induction h with
  | nil => have := Fulls.cons B [] hb hs .nil; simpa using this
  | cons B' R' h1 h2 _ ih => rw [List.append_assoc]; exact .cons B' _ h1 h2 ih
end
end Go.Proofs.Ytomgdkfoinojiaa

namespace Go.Proofs.Ytomgdkfoinojiaa
open Go.RowKit Go.Sort
section
variable {α : Type} [Inhabited α] {lt : α → α → Bool} {l l' : List α}
/-- The list in order, equals as they stood. -/
def sortL (lt : α → α → Bool) (l : List α) : List α := (insertionSort lt l.toArray 0 l.length).toList
theorem sortL_ok (O : SWO lt) (l : List α) : Srt lt (sortL lt l) ∧ Stb lt l (sortL lt l) := by
  obtain ⟨Z, h1, h2, h3, h4⟩ := insertion_part (d := l.toArray) (A := []) (B := l) (C := []) O (by simp)
  simp only [List.length_nil, Nat.zero_add, List.nil_append, List.append_nil] at h1 h4
  unfold sortL
  rw [h1]
  exact ⟨h3, by simpa using h4⟩
theorem sortL_eq (O : SWO lt) (h1 : Srt lt l') (h2 : Stb lt l l') : l' = sortL lt l := by
  have := sortL_ok O l
  exact Stb.uniq O (fun z => by rw [this.2 z, h2 z]) h1 this.1
theorem sortL_len (O : SWO lt) (l : List α) : (sortL lt l).length = l.length := (sortL_ok O l).2.length O
theorem sortL_mem (O : SWO lt) {l : List α} {x : α} : x ∈ sortL lt l ↔ x ∈ l := (sortL_ok O l).2.mem O
theorem sortL_nil (O : SWO lt) : sortL lt ([] : List α) = [] := List.eq_nil_of_length_eq_zero (by rw [sortL_len O]; rfl)
end
/-- Stable order goes through a map that keeps the order. -/
theorem Stb.map {α β : Type} {lt : α → α → Bool} {lt' : β → β → Bool} (f : α → β) (h : ∀ x y, lt' (f x) (f y) = lt x y) {l l' : List α} (O : SWO lt') (hs : Stb lt l l') : Stb lt' (l.map f) (l'.map f) := by
  intro z
  rw [List.filter_map, List.filter_map]
  by_cases hz : ∃ x ∈ l, eqv lt' z (f x) = true
  · obtain ⟨x, hx, hzx⟩ := hz
    have e : ((eqv lt' z) ∘ f) = eqv lt x := by
      funext y
      simp only [Function.comp, eqv, Bool.and_eq_true, Bool.not_eq_true'] at hzx ⊢
      rw [← h x y, ← h y x]
      have a1 : lt' z (f y) = lt' (f x) (f y) := by
        cases e1 : lt' z (f y) <;> cases e2 : lt' (f x) (f y) <;> first | rfl | (exfalso)
        · have t := O.ntrans (f x) z (f y) hzx.2 e1
          rw [e2] at t; cases t
        · have t := O.ntrans z (f x) (f y) hzx.1 e2
          rw [e1] at t; cases t
      have a2 : lt' (f y) z = lt' (f y) (f x) := by
        cases e1 : lt' (f y) z <;> cases e2 : lt' (f y) (f x) <;> first | rfl | (exfalso)
        · have t := O.ntrans (f y) z (f x) e1 hzx.1
          rw [e2] at t; cases t
        · have t := O.ntrans (f y) (f x) z e2 hzx.2
          rw [e1] at t; cases t
      rw [a1, a2]
    rw [e, hs x]
  · have n1 : ∀ x ∈ l, ((eqv lt' z) ∘ f) x = false := fun x hx => by
      cases e : ((eqv lt' z) ∘ f) x with
      | false => rfl
      | true => exact absurd ⟨x, hx, e⟩ hz
    have hl : ∀ x ∈ l', x ∈ l := fun x hx => by
      have hx' : x ∈ l'.filter (eqv lt x) := by
        rw [List.mem_filter]
        refine ⟨hx, ?_⟩
        have : lt x x = false := by rw [← h x x]; exact O.irrefl _
        simp [eqv, this]
      rw [hs x] at hx'
      exact (List.mem_filter.1 hx').1
    have e1 : l.filter ((eqv lt' z) ∘ f) = [] := List.filter_eq_nil_iff.2 fun x hx => by rw [n1 x hx]; simp
    have e2 : l'.filter ((eqv lt' z) ∘ f) = [] := List.filter_eq_nil_iff.2 fun x hx => by rw [n1 x (hl x hx)]; simp
    rw [e1, e2]
theorem Srt.map {α β : Type} {lt : α → α → Bool} {lt' : β → β → Bool} (f : α → β) (h : ∀ x y, lt' (f x) (f y) = lt x y) {l : List α} (hs : Srt lt l) : Srt lt' (l.map f) := by
  unfold Srt
  rw [List.pairwise_map]
  exact hs.imp fun {a b} hab => by rw [h]; exact hab
@[ext] structure ScionE where
  client : Int
  number : Int
  iDMachine : Int
  iDSerial : Int
  out : Int
  inn : Int
  distance : Int
  touched : Bool
  weak : Bool
  garbage : Bool
  lockMachine : Int
  lockSerial : Int
def ScionE.cells (e : ScionE) : List Value := [.int .i64 e.client, .int .u64 e.number, .int .i64 e.iDMachine, .int .i64 e.iDSerial, .int .i64 e.out, .int .i64 e.inn, .int .i64 e.distance, .bool e.touched, .bool e.weak, .bool e.garbage, .int .i64 e.lockMachine, .int .i64 e.lockSerial]
theorem ScionE.cells_length (e : ScionE) : e.cells.length = 12 := rfl
abbrev ScionE.v (e : ScionE) : Value := .agg #[.int .i64 e.client, .int .u64 e.number, .int .i64 e.iDMachine, .int .i64 e.iDSerial, .int .i64 e.out, .int .i64 e.inn, .int .i64 e.distance, .bool e.touched, .bool e.weak, .bool e.garbage, .int .i64 e.lockMachine, .int .i64 e.lockSerial]
abbrev ScionE.arr (e : ScionE) : Array Value := #[.int .i64 e.client, .int .u64 e.number, .int .i64 e.iDMachine, .int .i64 e.iDSerial, .int .i64 e.out, .int .i64 e.inn, .int .i64 e.distance, .bool e.touched, .bool e.weak, .bool e.garbage, .int .i64 e.lockMachine, .int .i64 e.lockSerial]
theorem ScionE.facts {e : ScionE} {w : World} {b off k : Nat} (h : ∀ j u, e.cells[j]? = some u → w.cell? ⟨b, off + k * 12 + j, none⟩ = some u) : w.cell? ⟨b, off + k * 12, none⟩ = some (.int .i64 e.client) ∧ w.cell? ⟨b, off + k * 12 + 1, none⟩ = some (.int .u64 e.number) ∧ w.cell? ⟨b, off + k * 12 + 2, none⟩ = some (.int .i64 e.iDMachine) ∧ w.cell? ⟨b, off + k * 12 + 3, none⟩ = some (.int .i64 e.iDSerial) ∧ w.cell? ⟨b, off + k * 12 + 4, none⟩ = some (.int .i64 e.out) ∧ w.cell? ⟨b, off + k * 12 + 5, none⟩ = some (.int .i64 e.inn) ∧ w.cell? ⟨b, off + k * 12 + 6, none⟩ = some (.int .i64 e.distance) ∧ w.cell? ⟨b, off + k * 12 + 7, none⟩ = some (.bool e.touched) ∧ w.cell? ⟨b, off + k * 12 + 8, none⟩ = some (.bool e.weak) ∧ w.cell? ⟨b, off + k * 12 + 9, none⟩ = some (.bool e.garbage) ∧ w.cell? ⟨b, off + k * 12 + 10, none⟩ = some (.int .i64 e.lockMachine) ∧ w.cell? ⟨b, off + k * 12 + 11, none⟩ = some (.int .i64 e.lockSerial) :=
  ⟨by simpa using h 0 _ rfl, by simpa using h 1 _ rfl, by simpa using h 2 _ rfl, by simpa using h 3 _ rfl, by simpa using h 4 _ rfl, by simpa using h 5 _ rfl, by simpa using h 6 _ rfl, by simpa using h 7 _ rfl, by simpa using h 8 _ rfl, by simpa using h 9 _ rfl, by simpa using h 10 _ rfl, by simpa using h 11 _ rfl⟩
/-- The element lies there, in each later world. -/
abbrev ScionE.Has (w : World) (b off k : Nat) (e : ScionE) : Prop := ∀ (u : World) [Later w u], u.cell? ⟨b, off + k * 12, none⟩ = some (.int .i64 e.client) ∧ u.cell? ⟨b, off + k * 12 + 1, none⟩ = some (.int .u64 e.number) ∧ u.cell? ⟨b, off + k * 12 + 2, none⟩ = some (.int .i64 e.iDMachine) ∧ u.cell? ⟨b, off + k * 12 + 3, none⟩ = some (.int .i64 e.iDSerial) ∧ u.cell? ⟨b, off + k * 12 + 4, none⟩ = some (.int .i64 e.out) ∧ u.cell? ⟨b, off + k * 12 + 5, none⟩ = some (.int .i64 e.inn) ∧ u.cell? ⟨b, off + k * 12 + 6, none⟩ = some (.int .i64 e.distance) ∧ u.cell? ⟨b, off + k * 12 + 7, none⟩ = some (.bool e.touched) ∧ u.cell? ⟨b, off + k * 12 + 8, none⟩ = some (.bool e.weak) ∧ u.cell? ⟨b, off + k * 12 + 9, none⟩ = some (.bool e.garbage) ∧ u.cell? ⟨b, off + k * 12 + 10, none⟩ = some (.int .i64 e.lockMachine) ∧ u.cell? ⟨b, off + k * 12 + 11, none⟩ = some (.int .i64 e.lockSerial)
theorem ScionE.has {e : ScionE} {w : World} {b off k : Nat} (hb : b < w.heap.size) (h : ∀ j u, e.cells[j]? = some u → w.cell? ⟨b, off + k * 12 + j, none⟩ = some u) : ScionE.Has w b off k e := fun u i => ScionE.facts fun j v hv => (i.below.cell (p := ⟨b, _, none⟩) hb).trans (h j v hv)
theorem ScionE.get {w : World} {A : Option Addr} {l : List ScionE} (h : SlAt ScionE.cells 12 w A l) {k : Nat} (hk : k < l.length) : ∃ b off x, A = some ⟨b, off, none⟩ ∧ l[k]? = some x ∧ ScionE.Has w b off k x := by
  obtain ⟨b, off, x, hA, hb, hx, hc⟩ := h.at_ hk
  exact ⟨b, off, x, hA, hx, ScionE.has hb hc⟩
def ScionE.beq (x y : ScionE) : Bool := x.client == y.client && x.number == y.number && x.iDMachine == y.iDMachine && x.iDSerial == y.iDSerial && x.out == y.out && x.inn == y.inn && x.distance == y.distance && x.touched == y.touched && x.weak == y.weak && x.garbage == y.garbage && x.lockMachine == y.lockMachine && x.lockSerial == y.lockSerial
theorem ScionE.beq_iff {x y : ScionE} : x.beq y = true ↔ x = y := by
  cases x; cases y; simp [ScionE.beq, Bool.and_eq_true, and_assoc]
theorem ScionE.enc : Enc ScionE.cells 12 := ⟨fun _ => rfl, fun x u hu => by simp only [ScionE.cells, List.mem_cons, List.not_mem_nil, or_false] at hu; rcases hu with rfl | rfl | rfl | rfl | rfl | rfl | rfl | rfl | rfl | rfl | rfl | rfl <;> rfl, by decide⟩
@[ext] structure StubE where
  owner : Int
  number : Int
  iDMachine : Int
  iDSerial : Int
  clas : Int
  lastUse : Int
  distance : Int
  touched : Bool
  weak : Bool
  dead : Bool
  lockMachine : Int
  lockSerial : Int
def StubE.cells (e : StubE) : List Value := [.int .i64 e.owner, .int .u64 e.number, .int .i64 e.iDMachine, .int .i64 e.iDSerial, .int .i64 e.clas, .int .i64 e.lastUse, .int .i64 e.distance, .bool e.touched, .bool e.weak, .bool e.dead, .int .i64 e.lockMachine, .int .i64 e.lockSerial]
theorem StubE.cells_length (e : StubE) : e.cells.length = 12 := rfl
abbrev StubE.v (e : StubE) : Value := .agg #[.int .i64 e.owner, .int .u64 e.number, .int .i64 e.iDMachine, .int .i64 e.iDSerial, .int .i64 e.clas, .int .i64 e.lastUse, .int .i64 e.distance, .bool e.touched, .bool e.weak, .bool e.dead, .int .i64 e.lockMachine, .int .i64 e.lockSerial]
abbrev StubE.arr (e : StubE) : Array Value := #[.int .i64 e.owner, .int .u64 e.number, .int .i64 e.iDMachine, .int .i64 e.iDSerial, .int .i64 e.clas, .int .i64 e.lastUse, .int .i64 e.distance, .bool e.touched, .bool e.weak, .bool e.dead, .int .i64 e.lockMachine, .int .i64 e.lockSerial]
theorem StubE.facts {e : StubE} {w : World} {b off k : Nat} (h : ∀ j u, e.cells[j]? = some u → w.cell? ⟨b, off + k * 12 + j, none⟩ = some u) : w.cell? ⟨b, off + k * 12, none⟩ = some (.int .i64 e.owner) ∧ w.cell? ⟨b, off + k * 12 + 1, none⟩ = some (.int .u64 e.number) ∧ w.cell? ⟨b, off + k * 12 + 2, none⟩ = some (.int .i64 e.iDMachine) ∧ w.cell? ⟨b, off + k * 12 + 3, none⟩ = some (.int .i64 e.iDSerial) ∧ w.cell? ⟨b, off + k * 12 + 4, none⟩ = some (.int .i64 e.clas) ∧ w.cell? ⟨b, off + k * 12 + 5, none⟩ = some (.int .i64 e.lastUse) ∧ w.cell? ⟨b, off + k * 12 + 6, none⟩ = some (.int .i64 e.distance) ∧ w.cell? ⟨b, off + k * 12 + 7, none⟩ = some (.bool e.touched) ∧ w.cell? ⟨b, off + k * 12 + 8, none⟩ = some (.bool e.weak) ∧ w.cell? ⟨b, off + k * 12 + 9, none⟩ = some (.bool e.dead) ∧ w.cell? ⟨b, off + k * 12 + 10, none⟩ = some (.int .i64 e.lockMachine) ∧ w.cell? ⟨b, off + k * 12 + 11, none⟩ = some (.int .i64 e.lockSerial) :=
  ⟨by simpa using h 0 _ rfl, by simpa using h 1 _ rfl, by simpa using h 2 _ rfl, by simpa using h 3 _ rfl, by simpa using h 4 _ rfl, by simpa using h 5 _ rfl, by simpa using h 6 _ rfl, by simpa using h 7 _ rfl, by simpa using h 8 _ rfl, by simpa using h 9 _ rfl, by simpa using h 10 _ rfl, by simpa using h 11 _ rfl⟩
/-- The element lies there, in each later world. -/
abbrev StubE.Has (w : World) (b off k : Nat) (e : StubE) : Prop := ∀ (u : World) [Later w u], u.cell? ⟨b, off + k * 12, none⟩ = some (.int .i64 e.owner) ∧ u.cell? ⟨b, off + k * 12 + 1, none⟩ = some (.int .u64 e.number) ∧ u.cell? ⟨b, off + k * 12 + 2, none⟩ = some (.int .i64 e.iDMachine) ∧ u.cell? ⟨b, off + k * 12 + 3, none⟩ = some (.int .i64 e.iDSerial) ∧ u.cell? ⟨b, off + k * 12 + 4, none⟩ = some (.int .i64 e.clas) ∧ u.cell? ⟨b, off + k * 12 + 5, none⟩ = some (.int .i64 e.lastUse) ∧ u.cell? ⟨b, off + k * 12 + 6, none⟩ = some (.int .i64 e.distance) ∧ u.cell? ⟨b, off + k * 12 + 7, none⟩ = some (.bool e.touched) ∧ u.cell? ⟨b, off + k * 12 + 8, none⟩ = some (.bool e.weak) ∧ u.cell? ⟨b, off + k * 12 + 9, none⟩ = some (.bool e.dead) ∧ u.cell? ⟨b, off + k * 12 + 10, none⟩ = some (.int .i64 e.lockMachine) ∧ u.cell? ⟨b, off + k * 12 + 11, none⟩ = some (.int .i64 e.lockSerial)
theorem StubE.has {e : StubE} {w : World} {b off k : Nat} (hb : b < w.heap.size) (h : ∀ j u, e.cells[j]? = some u → w.cell? ⟨b, off + k * 12 + j, none⟩ = some u) : StubE.Has w b off k e := fun u i => StubE.facts fun j v hv => (i.below.cell (p := ⟨b, _, none⟩) hb).trans (h j v hv)
theorem StubE.get {w : World} {A : Option Addr} {l : List StubE} (h : SlAt StubE.cells 12 w A l) {k : Nat} (hk : k < l.length) : ∃ b off x, A = some ⟨b, off, none⟩ ∧ l[k]? = some x ∧ StubE.Has w b off k x := by
  obtain ⟨b, off, x, hA, hb, hx, hc⟩ := h.at_ hk
  exact ⟨b, off, x, hA, hx, StubE.has hb hc⟩
def StubE.beq (x y : StubE) : Bool := x.owner == y.owner && x.number == y.number && x.iDMachine == y.iDMachine && x.iDSerial == y.iDSerial && x.clas == y.clas && x.lastUse == y.lastUse && x.distance == y.distance && x.touched == y.touched && x.weak == y.weak && x.dead == y.dead && x.lockMachine == y.lockMachine && x.lockSerial == y.lockSerial
theorem StubE.beq_iff {x y : StubE} : x.beq y = true ↔ x = y := by
  cases x; cases y; simp [StubE.beq, Bool.and_eq_true, and_assoc]
theorem StubE.enc : Enc StubE.cells 12 := ⟨fun _ => rfl, fun x u hu => by simp only [StubE.cells, List.mem_cons, List.not_mem_nil, or_false] at hu; rcases hu with rfl | rfl | rfl | rfl | rfl | rfl | rfl | rfl | rfl | rfl | rfl | rfl <;> rfl, by decide⟩
def idS (e : StubE) : IDE := ⟨e.iDMachine, e.iDSerial⟩
def idK (k : ScionE) : IDE := ⟨k.iDMachine, k.iDSerial⟩
/-- An object is reached. -/
noncomputable def hasB (L : List NodeC) (roots : List IDE) (x : IDE) : Bool := @decide (Reach L roots x) (Classical.propDecidable _)
theorem hasB_iff {L : List NodeC} {roots : List IDE} {x : IDE} : hasB L roots x = true ↔ Reach L roots x := by unfold hasB; simp
theorem hasB_eq {L : List NodeC} {roots q : List IDE} (h : ReachL L roots q) (x : IDE) : decide (x ∈ q) = hasB L roots x := by
  rw [Bool.eq_iff_iff, hasB_iff, decide_eq_true_eq]; exact h.2 x
/-- Is it a root scion? -/
def rootB (k : ScionE) : Bool := !k.weak && !k.garbage && !decide (idK k = ⟨0, 0⟩)
def aliveB (e : StubE) : Bool := !(e.weak || e.dead)
noncomputable def insB (L : List NodeC) (x : IDE) (k : ScionE) : Bool := rootB k && hasB L [idK k] x
def toIn (k : ScionE) : InsetE := ⟨k.client, k.number, k.out⟩
noncomputable def insL (L : List NodeC) (ks : List ScionE) (x : IDE) : List ScionE := ks.filter (insB L x)
def ltIn : InsetE → InsetE → Bool := Go.Proofs.ltOf cmpIn
def ltC (x y : SumC) : Bool := decide (lexN x.owner x.number y.owner y.number)
instance : Inhabited SumC := ⟨⟨0, 0, false, 0, []⟩⟩
theorem ltC_swo : SWO ltC := ⟨fun x => by simp [ltC, lexN], fun x y z => by simp only [ltC, decide_eq_true_eq]; unfold lexN; omega, fun x y z => by simp only [ltC, decide_eq_false_iff_not]; unfold lexN; omega⟩
theorem ltC_con (x y : SumE) : ltC x.con y.con = Go.Proofs.ltOf cmpSu x y := (cmpSu_lt x y).symm
/-- The summary of a stub. -/
noncomputable def sumOf (L : List NodeC) (roots : List IDE) (ks : List ScionE) (e : StubE) : SumC :=
  ⟨e.owner, e.number, hasB L roots (idS e), farD (hasB L roots (idS e)) ((insL L ks (idS e)).map ScionE.distance), sortL ltIn ((insL L ks (idS e)).map toIn)⟩
noncomputable def sumL (L : List NodeC) (roots : List IDE) (ks : List ScionE) (es : List StubE) : List SumC := sortL ltC ((es.filter aliveB).map (sumOf L roots ks))
theorem filter_take {α : Type} {p : α → Bool} {l : List α} {k : Nat} {x : α} (h : l[k]? = some x) : (l.take (k + 1)).filter p = (l.take k).filter p ++ (if p x then [x] else []) := by
  rw [List.take_add_one, h, List.filter_append]
  cases hp : p x <;> simp [hp]
end Go.Proofs.Ytomgdkfoinojiaa

namespace Go.Proofs.Ytomgdkfoinojiaa
open Go.RowKit
theorem reachL_len {L : List NodeC} {roots q : List IDE} (h : ReachL L roots q) : q.length ≤ L.length := by
  have hn := h.1.nodup
  have hs : ∀ x ∈ q, x ∈ ids L := fun x hx => firstN_ids.1 ((h.2 x).1 hx).node
  have := hn.length_le_of_subset hs
  simpa [ids] using this
end Go.Proofs.Ytomgdkfoinojiaa

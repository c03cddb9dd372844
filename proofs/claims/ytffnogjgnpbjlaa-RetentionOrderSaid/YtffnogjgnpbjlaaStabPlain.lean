/-
  Stable sorting, plain: lists alike up to the order of unequal elements; runs; merging; insertion. Conditions stand in each theorem.
-/
import Derived.Test.YtffnogjgnpbjlaaGrpA
import Derived.Sort.LotA
set_option linter.unusedSimpArgs false
set_option linter.unusedVariables false
namespace Go.Proofs.Ytffnogjgnpbjlaa
open Go.Sort

section
variable {α : Type} (lt : α → α → Bool)
def eqv (z x : α) : Bool := !lt z x && !lt x z
/-- l' has, for each class of equals, the elements of l in their order. -/
def Stb (l l' : List α) : Prop := ∀ z, l'.filter (eqv lt z) = l.filter (eqv lt z)
def Srt (l : List α) : Prop := l.Pairwise (fun x y => lt y x = false)
end
section
variable {α : Type} {lt : α → α → Bool} {l l' l'' m m' X Y X1 X2 Y1 Y2 Z1 Z2 : List α}
theorem Stb.refl : Stb lt l l := fun _ => rfl
theorem Stb.trans (h : Stb lt l l') (k : Stb lt l' l'') : Stb lt l l'' := fun z => (k z).trans (h z)
theorem Stb.app (h : Stb lt l l') (k : Stb lt m m') : Stb lt (l ++ m) (l' ++ m') := fun z => by rw [List.filter_append, List.filter_append, h z, k z]
theorem eqv_self (O : SWO lt) (x : α) : eqv lt x x = true := by simp [eqv, O.irrefl]
/-- Neighbouring parts change places where each of the second is less than each of the first. -/
theorem Stb.swap (O : SWO lt) (h : ∀ x ∈ X, ∀ y ∈ Y, lt y x = true) : Stb lt (X ++ Y) (Y ++ X) := fun z => by
  rw [List.filter_append, List.filter_append]
  by_cases hx : X.filter (eqv lt z) = []
  · rw [hx]; simp
  · have hy : Y.filter (eqv lt z) = [] := by
      rw [List.filter_eq_nil_iff]
      intro y hy hz
      obtain ⟨x, hxm⟩ := List.exists_mem_of_ne_nil _ hx
      obtain ⟨hxX, hxz⟩ := List.mem_filter.1 hxm
      have h1 := h x hxX y hy
      simp only [eqv, Bool.and_eq_true, Bool.not_eq_true'] at hz hxz
      have := O.ntrans y z x hz.2 hxz.1
      rw [h1] at this; cases this
    rw [hy]; simp
theorem Stb.mem (O : SWO lt) (h : Stb lt l l') {x : α} : x ∈ l' ↔ x ∈ l := by
  have : ∀ k : List α, x ∈ k ↔ x ∈ k.filter (eqv lt x) := fun k => by rw [List.mem_filter]; simp [eqv_self O x]
  rw [this l', this l, h x]
theorem Stb.perm (O : SWO lt) (h : Stb lt l l') : l'.Perm l := by
  classical
  rw [List.perm_iff_count]
  intro x
  rw [← List.count_filter (eqv_self O x) (l := l'), ← List.count_filter (eqv_self O x) (l := l), h x]
theorem Stb.length (O : SWO lt) (h : Stb lt l l') : l'.length = l.length := (h.perm O).length_eq
theorem Stb.uniq (O : SWO lt) : ∀ {l l' : List α}, Stb lt l l' → Srt lt l → Srt lt l' → l = l' := by
  intro l
  induction l with
  | nil => intro l' h _ _; have := h.length O; exact (List.eq_nil_of_length_eq_zero (by simpa using this)).symm
  | cons x l ih =>
    intro l' h h1 h2
    cases l' with
    | nil => exact absurd (h.length O) (by simp)
    | cons y l' =>
      have hx : x ∈ y :: l' := (h.mem O).2 (List.mem_cons_self ..)
      have hy : y ∈ x :: l := (h.mem O).1 (List.mem_cons_self ..)
      have a1 : lt x y = false := by
        rcases List.mem_cons.1 hx with e | e
        · rw [e]; exact O.irrefl _
        · exact List.rel_of_pairwise_cons h2 e
      have a2 : lt y x = false := by
        rcases List.mem_cons.1 hy with e | e
        · rw [e]; exact O.irrefl _
        · exact List.rel_of_pairwise_cons h1 e
      have hz := h x
      have e1 : eqv lt x x = true := eqv_self O x
      have e2 : eqv lt x y = true := by simp [eqv, a1, a2]
      rw [List.filter_cons_of_pos e1, List.filter_cons_of_pos e2] at hz
      injection hz with hxy _
      subst hxy
      have ht : Stb lt l l' := fun z => by
        have := h z
        cases hb : eqv lt z y with
        | true => rw [List.filter_cons_of_pos hb, List.filter_cons_of_pos hb] at this; injection this
        | false => rwa [List.filter_cons_of_neg (by simp [hb]), List.filter_cons_of_neg (by simp [hb])] at this
      rw [ih ht h1.tail h2.tail]
/-- What a merge does, once the places to part at are found. -/
theorem merge_step (O : SWO lt) (hX : Srt lt (X1 ++ X2)) (hY : Srt lt (Y1 ++ Y2)) (h1 : ∀ x ∈ X2, ∀ y ∈ Y1, lt y x = true) (h2 : ∀ x ∈ X1, ∀ y ∈ Y2, lt y x = false)
    (z1 : Srt lt Z1) (s1 : Stb lt (X1 ++ Y1) Z1) (z2 : Srt lt Z2) (s2 : Stb lt (X2 ++ Y2) Z2) : Srt lt (Z1 ++ Z2) ∧ Stb lt ((X1 ++ X2) ++ (Y1 ++ Y2)) (Z1 ++ Z2) := by
  have pX := List.pairwise_append.1 hX
  have pY := List.pairwise_append.1 hY
  refine ⟨List.pairwise_append.2 ⟨z1, z2, fun a ha b hb => ?_⟩, ?_⟩
  · rw [s1.mem O, List.mem_append] at ha
    rw [s2.mem O, List.mem_append] at hb
    rcases ha with ha | ha <;> rcases hb with hb | hb
    · exact pX.2.2 a ha b hb
    · exact h2 a ha b hb
    · have := h1 b hb a ha
      cases hba : lt b a with
      | false => rfl
      | true => have := O.trans a b a this hba; rw [O.irrefl] at this; cases this
    · exact pY.2.2 a ha b hb
  · have e : Stb lt ((X1 ++ X2) ++ (Y1 ++ Y2)) ((X1 ++ Y1) ++ (X2 ++ Y2)) := by
      have := (Stb.refl (lt := lt) (l := X1)).app ((Stb.swap O h1).app (Stb.refl (lt := lt) (l := Y2)))
      simpa [List.append_assoc] using this
    exact e.trans (s1.app s2)
/-- One element laid into a sorted list, behind its equals. -/
theorem insert_step (O : SWO lt) {y : α} (hX : Srt lt (X1 ++ X2)) (h1 : ∀ x ∈ X2, lt y x = true) (h2 : ∀ x ∈ X1, lt y x = false) : Srt lt (X1 ++ y :: X2) ∧ Stb lt ((X1 ++ X2) ++ [y]) (X1 ++ y :: X2) := by
  have pX := List.pairwise_append.1 hX
  have h1' : ∀ x ∈ X2, lt x y = false := fun x hx => by
    cases hxy : lt x y with
    | false => rfl
    | true => have := O.trans y x y (h1 x hx) hxy; rw [O.irrefl] at this; cases this
  refine ⟨List.pairwise_append.2 ⟨pX.1, List.pairwise_cons.2 ⟨h1', pX.2.1⟩, fun a ha b hb => ?_⟩, ?_⟩
  · rcases List.mem_cons.1 hb with rfl | hb
    · exact h2 a ha
    · exact pX.2.2 a ha b hb
  · have := (Stb.refl (lt := lt) (l := X1)).app (Stb.swap (X := X2) (Y := [y]) O (fun x hx z hz => by rw [List.mem_singleton] at hz; rw [hz]; exact h1 x hx))
    simpa [List.append_assoc] using this
end

/-! ### Arrays as lists -/
section
variable {α : Type} [Inhabited α] {lt : α → α → Bool} {d d' : Array α} {A B C : List α} {x y : α} {i j : Nat}
theorem nth_at (h : d.toList = A ++ x :: B) (hi : i = A.length) : d[i]! = x := by
  have hl : i < d.size := by rw [← Array.length_toList, h]; simp; omega
  rw [getElem!_pos d i hl]
  have : d.toList[i]? = some x := by rw [h, hi]; simp
  rw [Array.getElem?_toList, Array.getElem?_eq_getElem hl] at this
  exact Option.some.inj this
theorem nth_mem (h : d.toList = A ++ (B ++ C)) (h1 : A.length ≤ i) (h2 : i < A.length + B.length) : d[i]! ∈ B := by
  have hl : i < d.size := by rw [← Array.length_toList, h]; simp; omega
  rw [getElem!_pos d i hl, ← Array.getElem_toList]
  have : d.toList[i]? = B[i - A.length]? := by
    rw [h, List.getElem?_append_right h1, List.getElem?_append_left (by omega)]
  have hb : i - A.length < B.length := by omega
  rw [List.getElem?_eq_getElem (by rw [Array.length_toList]; exact hl), List.getElem?_eq_getElem hb] at this
  rw [Option.some.inj this]
  exact List.getElem_mem hb
theorem swp_comm (d : Array α) {i j : Nat} (hi : i < d.size) (hj : j < d.size) : swp d i j = swp d j i := by
  by_cases h : i = j
  · rw [h]
  · apply Array.ext_getElem?
    intro k
    unfold swp
    simp only [Array.getElem?_setIfInBounds, Array.size_setIfInBounds]
    by_cases hki : i = k
    · subst hki
      rw [if_neg (fun e => h e.symm), if_pos rfl, if_pos rfl]
    · by_cases hkj : j = k
      · subst hkj; simp [h]
      · simp [hki, hkj]
theorem swp_list (h : d.toList = A ++ x :: (B ++ y :: C)) (hi : i = A.length) (hj : j = A.length + 1 + B.length) : (swp d i j).toList = A ++ y :: (B ++ x :: C) := by
  have hx : d[i]! = x := nth_at h hi
  have hy : d[j]! = y := nth_at (A := A ++ x :: B) (B := C) (by rw [h]; simp) (by rw [hj]; simp; omega)
  unfold swp
  rw [hx, hy, Array.toList_setIfInBounds, Array.toList_setIfInBounds, h, hi, hj]
  rw [List.set_append_right _ _ (Nat.le_refl _), Nat.sub_self, List.set_cons_zero, List.set_append_right _ _ (by omega)]
  rw [show A.length + 1 + B.length - A.length = B.length + 1 by omega, List.set_cons_succ, List.set_append_right _ _ (Nat.le_refl _), Nat.sub_self, List.set_cons_zero]
theorem swp_list' (h : d.toList = A ++ x :: (B ++ y :: C)) (hi : i = A.length) (hj : j = A.length + 1 + B.length) : (swp d j i).toList = A ++ y :: (B ++ x :: C) := by
  have hl : d.size = A.length + 1 + B.length + 1 + C.length := by rw [← Array.length_toList, h]; simp; omega
  rw [swp_comm d (by omega) (by omega)]
  exact swp_list h hi hj

/-- A part of the array that is sorted, by places. -/
theorem srt_part (h : d.toList = A ++ (B ++ C)) (hs : Srt lt B) {p q : Nat} (h1 : A.length ≤ p) (h2 : p < q) (h3 : q < A.length + B.length) : lt d[q]! d[p]! = false := by
  have hl : A.length + B.length ≤ d.size := by rw [← Array.length_toList, h, List.length_append, List.length_append]; omega
  have e : ∀ k (h1 : A.length ≤ k) (h2 : k < A.length + B.length), d[k]! = B[k - A.length]'(by omega) := fun k k1 k2 => by
    rw [getElem!_pos d k (by omega), ← Array.getElem_toList]
    have : d.toList[k]? = B[k - A.length]? := by rw [h, List.getElem?_append_right k1, List.getElem?_append_left (by omega)]
    rw [List.getElem?_eq_getElem (by rw [Array.length_toList]; omega), List.getElem?_eq_getElem (by omega)] at this
    exact Option.some.inj this
  rw [e p h1 (by omega), e q (by omega) h3]
  exact List.pairwise_iff_getElem.1 hs _ _ _ _ (by omega)
theorem srt_le (O : SWO lt) (h : d.toList = A ++ (B ++ C)) (hs : Srt lt B) {p q : Nat} (h1 : A.length ≤ p) (h2 : p ≤ q) (h3 : q < A.length + B.length) : lt d[q]! d[p]! = false := by
  rcases Nat.lt_or_ge p q with hlt | hge
  · exact srt_part h hs h1 hlt h3
  · rw [show p = q by omega]; exact O.irrefl _

/-! ### Insertion, as the kit's plain words say it -/
theorem swp_stb (O : SWO lt) (hj : j + 1 < d.size) (hl : lt d[j + 1]! d[j]! = true) : Stb lt d.toList (swp d (j + 1) j).toList := by
  have hlen : j + 1 < d.toList.length := by simpa using hj
  have e : d.toList = d.toList.take j ++ d[j]! :: ([] ++ d[j + 1]! :: d.toList.drop (j + 2)) := by
    rw [getElem!_pos d j (by omega), getElem!_pos d (j + 1) hj, ← Array.getElem_toList, ← Array.getElem_toList, List.nil_append, ← List.drop_eq_getElem_cons, ← List.drop_eq_getElem_cons, List.take_append_drop]
  have hs : (swp d (j + 1) j).toList = d.toList.take j ++ d[j + 1]! :: ([] ++ d[j]! :: d.toList.drop (j + 2)) := swp_list' (i := j) (j := j + 1) e (by simp; omega) (by simp; omega)
  rw [hs]
  have : Stb lt (d.toList.take j ++ ([d[j]!] ++ [d[j + 1]!]) ++ d.toList.drop (j + 2)) (d.toList.take j ++ ([d[j + 1]!] ++ [d[j]!]) ++ d.toList.drop (j + 2)) :=
    (Stb.refl.app (Stb.swap O (fun a ha b hb => by rw [List.mem_singleton] at ha hb; rw [ha, hb]; exact hl))).app Stb.refl
  simp only [List.append_assoc, List.singleton_append, List.nil_append, List.cons_append] at this ⊢
  simp only [List.nil_append] at e
  rw [← e] at this
  exact this
theorem insInner_stb (O : SWO lt) (a : Nat) : ∀ (j : Nat) (d : Array α), j < d.size → Stb lt d.toList (insInner lt a j d).toList ∧ (insInner lt a j d).size = d.size := by
  intro j
  induction j with
  | zero => intro d _; rw [insInner]; exact ⟨Stb.refl, rfl⟩
  | succ j ih =>
    intro d hj
    rw [insInner]
    split
    · rename_i h
      rw [Bool.and_eq_true] at h
      have := ih (swp d (j + 1) j) (by rw [size_swp]; omega)
      exact ⟨(swp_stb O hj h.2).trans this.1, this.2.trans (size_swp ..)⟩
    · exact ⟨Stb.refl, rfl⟩
theorem insOuter_stb (O : SWO lt) (a b : Nat) : ∀ (n i : Nat) (d : Array α), b - i ≤ n → b ≤ d.size → Stb lt d.toList (insOuter lt a b i d).toList ∧ (insOuter lt a b i d).size = d.size := by
  intro n
  induction n with
  | zero => intro i d h _; rw [insOuter, if_neg (by omega)]; exact ⟨Stb.refl, rfl⟩
  | succ n ih =>
    intro i d h hb
    rw [insOuter]
    split
    · have h1 := insInner_stb O a i d (by omega)
      have h2 := ih (i + 1) (insInner lt a i d) (by omega) (by rw [h1.2]; exact hb)
      exact ⟨h1.1.trans h2.1, h2.2.trans h1.2⟩
    · exact ⟨Stb.refl, rfl⟩
/-- What insertion leaves: the part is sorted, the rest untouched, the whole alike. -/
theorem insertion_part (O : SWO lt) (h : d.toList = A ++ (B ++ C)) : ∃ Z, (insertionSort lt d A.length (A.length + B.length)).toList = A ++ (Z ++ C) ∧ Z.length = B.length ∧ Srt lt Z ∧ Stb lt d.toList (A ++ (Z ++ C)) := by
  have hl : d.size = A.length + B.length + C.length := by rw [← Array.length_toList, h]; simp; omega
  obtain ⟨⟨hs, hout, _⟩, hsrt⟩ := insertionSort_holds O d A.length (A.length + B.length) (by omega) (by omega)
  have hst := (insOuter_stb O A.length (A.length + B.length) _ (A.length + 1) d (Nat.le_refl _) (by omega)).1
  obtain ⟨e, he⟩ : ∃ e, insertionSort lt d A.length (A.length + B.length) = e := ⟨_, rfl⟩
  have hst' : Stb lt d.toList e.toList := by rw [← he]; exact hst
  rw [he] at hs hout hsrt ⊢
  have hle : e.toList.length = A.length + B.length + C.length := by rw [Array.length_toList, hs, hl]
  have at_ : ∀ k, k < e.toList.length → e.toList[k]? = some e[k]! := fun k hk => by rw [Array.getElem?_toList, Array.getElem?_eq_getElem (by simpa using hk), getElem!_pos e k (by simpa using hk)]
  have at_d : ∀ k, k < d.toList.length → d.toList[k]? = some d[k]! := fun k hk => by rw [Array.getElem?_toList, Array.getElem?_eq_getElem (by simpa using hk), getElem!_pos d k (by simpa using hk)]
  have hld : d.toList.length = A.length + B.length + C.length := by rw [Array.length_toList, hl]
  have eA : e.toList.take A.length = A := by
    apply List.ext_getElem?
    intro k
    rw [List.getElem?_take]
    split
    · rename_i hk
      rw [at_ k (by omega), hout k (.inl hk), ← at_d k (by omega), h, List.getElem?_append_left hk]
    · rw [List.getElem?_eq_none (by omega)]
  have eC : e.toList.drop (A.length + B.length) = C := by
    apply List.ext_getElem?
    intro k
    rw [List.getElem?_drop]
    rcases Nat.lt_or_ge k C.length with hk | hk
    · rw [at_ _ (by omega), hout _ (.inr (by omega)), ← at_d _ (by omega), h, List.getElem?_append_right (by omega), List.getElem?_append_right (by omega)]
      congr 1; omega
    · rw [List.getElem?_eq_none (by omega), List.getElem?_eq_none (by omega)]
  have hdec : e.toList = A ++ ((e.toList.drop A.length).take B.length ++ C) := by
    conv => lhs; rw [← List.take_append_drop A.length e.toList, eA, ← List.take_append_drop B.length (e.toList.drop A.length), List.drop_drop]
    rw [eC]
  refine ⟨(e.toList.drop A.length).take B.length, hdec, by simp [hle]; omega, ?_, by rw [← hdec]; exact hst'⟩
  unfold Srt
  rw [List.pairwise_iff_getElem]
  intro p q hp hq hpq
  have hq' : q < B.length := by simp at hq; omega
  have g : ∀ k (hk : k < B.length) (hk' : k < ((e.toList.drop A.length).take B.length).length), ((e.toList.drop A.length).take B.length)[k] = e[A.length + k]! := fun k hk hk' => by
    apply Option.some.inj
    rw [← List.getElem?_eq_getElem, List.getElem?_take, if_pos hk, List.getElem?_drop, at_ _ (by omega)]
  rw [g p (by omega), g q hq']
  exact hsrt _ _ (by omega) (by omega) (by omega)
end

/-! ### Runs -/
section
variable {α : Type} (lt : α → α → Bool)
/-- The list is made of sorted runs of b elements, and a last, shorter one. -/
inductive Runs (b : Nat) : List α → Prop
  | last (T : List α) : T.length < b → Srt lt T → Runs b T
  | cons (B R : List α) : B.length = b → Srt lt B → Runs b R → Runs b (B ++ R)
/-- .. of whole ones. -/
inductive Fulls (b : Nat) : List α → Prop
  | nil : Fulls b []
  | cons (B R : List α) : B.length = b → Srt lt B → Fulls b R → Fulls b (B ++ R)
end
section
variable {α : Type} {lt : α → α → Bool} {b : Nat} {l R B : List α}
theorem Runs.cut (h : Runs lt b l) (hl : b ≤ l.length) : ∃ B R, l = B ++ R ∧ B.length = b ∧ Srt lt B ∧ Runs lt b R := by
  cases h with
  | last T h1 _ => omega
  | cons B R h1 h2 h3 => exact ⟨B, R, rfl, h1, h2, h3⟩
theorem Runs.short (h : Runs lt b l) (hl : l.length < b) : Srt lt l := by
  cases h with
  | last T _ h1 => exact h1
  | cons B R h1 h2 h3 => simp at hl; omega
theorem Runs.whole (h : Runs lt b l) (hl : l.length ≤ b) : Srt lt l := by
  cases h with
  | last T _ h1 => exact h1
  | cons B R h1 h2 h3 =>
    have : R = [] := List.eq_nil_of_length_eq_zero (by simp at hl; omega)
    rw [this, List.append_nil]; exact h2
theorem Fulls.runs (h : Fulls lt b l) (k : Runs lt b R) : Runs lt b (l ++ R) := by
  induction h with
  | nil => exact k
  | cons B R' h1 h2 _ ih => rw [List.append_assoc]; exact .cons B _ h1 h2 ih
theorem Fulls.snoc (h : Fulls lt b l) (hb : B.length = b) (hs : Srt lt B) : Fulls lt b (l ++ B) := by
  induction h with
  | nil => have := Fulls.cons B [] hb hs .nil; simpa using this
  | cons B' R' h1 h2 _ ih => rw [List.append_assoc]; exact .cons B' _ h1 h2 ih
end
end Go.Proofs.Ytffnogjgnpbjlaa

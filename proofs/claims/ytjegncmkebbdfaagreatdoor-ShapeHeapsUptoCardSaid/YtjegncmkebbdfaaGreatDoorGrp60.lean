/-
  Small texts of this seat, put into one. Conditions stand in each theorem.
-/
import Derived.Test.YtjegncmkebbdfaaGreatDoorGrpA
import Derived.Sort.LotA
import Derived.Test.YtjegncmkebbdfaaGreatDoorRows
import Derived.Test.YtjegncmkebbdfaaGreatDoorGrp33
import Derived.Shelf.SlSortCmp.KitK
import Derived.Sort.WalkB2
import Derived.Sort.WalkB12
import Derived.Deep.LoopGhost
set_option linter.unusedSimpArgs false
set_option linter.unusedVariables false
namespace Go.Proofs.YtjegncmkebbdfaaGreatDoor
open Go.Sort

section
variable {α : Type} (lt : α → α → Bool)
def eqv (z x : α) : Bool := !lt z x && !lt x z
/-- l' has, for each class of equals, the elements of l in their order. -/
def Stb (l l' : List α) : Prop := ∀ z, l'.filter (eqv lt z) = l.filter (eqv lt z)
def Srt (l : List α) : Prop := l.Pairwise (fun x y => lt y x = false)
end
section
variable {α : Type} {lt : α → α → Bool} {l l' l'' m m' X Y X1 X2 Y1 Y2 Z1 Z2 : List α}
theorem Stb.refl : Stb lt l l := fun _ => rfl
theorem Stb.trans (h : Stb lt l l') (k : Stb lt l' l'') : Stb lt l l'' := fun z => (k z).trans (h z)
theorem Stb.app (h : Stb lt l l') (k : Stb lt m m') : Stb lt (l ++ m) (l' ++ m') := fun z => by rw [List.filter_append, List.filter_append, h z, k z]
theorem eqv_self (O : SWO lt) (x : α) : eqv lt x x = true := by simp [eqv, O.irrefl]
/-- Neighbouring parts change places where each of the second is less than each of the first. -/
theorem Stb.swap (O : SWO lt) (h : ∀ x ∈ X, ∀ y ∈ Y, lt y x = true) : Stb lt (X ++ Y) (Y ++ X) := fun z => by
  rw [List.filter_append, List.filter_append]
  by_cases hx : X.filter (eqv lt z) = []
  · rw [hx]; simp
  · have hy : Y.filter (eqv lt z) = [] := by
      rw [List.filter_eq_nil_iff]
      intro y hy hz
      obtain ⟨x, hxm⟩ := List.exists_mem_of_ne_nil _ hx
      obtain ⟨hxX, hxz⟩ := List.mem_filter.1 hxm
      have h1 := h x hxX y hy
      simp only [eqv, Bool.and_eq_true, Bool.not_eq_true'] at hz hxz
      have := O.ntrans y z x hz.2 hxz.1
      rw [h1] at this; cases this
    rw [hy]; simp
theorem Stb.mem (O : SWO lt) (h : Stb lt l l') {x : α} : x ∈ l' ↔ x ∈ l := by
  have : ∀ k : List α, x ∈ k ↔ x ∈ k.filter (eqv lt x) := fun k => by rw [List.mem_filter]; simp [eqv_self O x]
  rw [this l', this l, h x]
theorem Stb.perm (O : SWO lt) (h : Stb lt l l') : l'.Perm l := by
  classical
  rw [List.perm_iff_count]
  intro x
  rw [← List.count_filter (eqv_self O x) (l := l'), ← List.count_filter (eqv_self O x) (l := l), h x]
theorem Stb.length (O : SWO lt) (h : Stb lt l l') : l'.length = l.length := (h.perm O).length_eq
theorem Stb.uniq (O : SWO lt) : ∀ {l l' : List α}, Stb lt l l' → Srt lt l → Srt lt l' → l = l' := by
  intro l
  induction l with
  | nil => intro l' h _ _; have := h.length O; exact (List.eq_nil_of_length_eq_zero (by simpa using this)).symm
  | cons x l ih =>
    intro l' h h1 h2
    cases l' with
    | nil => exact absurd (h.length O) (by simp)
    | cons y l' =>
      have hx : x ∈ y :: l' := (h.mem O).2 (List.mem_cons_self ..)
      have hy : y ∈ x :: l := (h.mem O).1 (List.mem_cons_self ..)
      have a1 : lt x y = false := by
        rcases List.mem_cons.1 hx with e | e
        · rw [e]; exact O.irrefl _
        · exact List.rel_of_pairwise_cons h2 e
      have a2 : lt y x = false := by
        rcases List.mem_cons.1 hy with e | e
        · rw [e]; exact O.irrefl _
        · exact List.rel_of_pairwise_cons h1 e
      have hz := h x
      have e1 : eqv lt x x = true := eqv_self O x
      have e2 : eqv lt x y = true := by simp [eqv, a1, a2]
      rw [List.filter_cons_of_pos e1, List.filter_cons_of_pos e2] at hz
      injection hz with hxy _
      subst hxy
      have ht : Stb lt l l' := fun z => by
        have := h z
        cases hb : eqv lt z y with
        | true => rw [List.filter_cons_of_pos hb, List.filter_cons_of_pos hb] at this; injection this
        | false => rwa [List.filter_cons_of_neg (by simp [hb]), List.filter_cons_of_neg (by simp [hb])] at this
      rw [ih ht h1.tail h2.tail]
/-- What a merge does, once the places to part at are found. -/
theorem merge_step (O : SWO lt) (hX : Srt lt (X1 ++ X2)) (hY : Srt lt (Y1 ++ Y2)) (h1 : ∀ x ∈ X2, ∀ y ∈ Y1, lt y x = true) (h2 : ∀ x ∈ X1, ∀ y ∈ Y2, lt y x = false)
    (z1 : Srt lt Z1) (s1 : Stb lt (X1 ++ Y1) Z1) (z2 : Srt lt Z2) (s2 : Stb lt (X2 ++ Y2) Z2) : Srt lt (Z1 ++ Z2) ∧ Stb lt ((X1 ++ X2) ++ (Y1 ++ Y2)) (Z1 ++ Z2) := by
  have pX := List.pairwise_append.1 hX
  have pY := List.pairwise_append.1 hY
  refine ⟨List.pairwise_append.2 ⟨z1, z2, fun a ha b hb => ?_⟩, ?_⟩
  · rw [s1.mem O, List.mem_append] at ha
    rw [s2.mem O, List.mem_append] at hb
    rcases ha with ha | ha <;> rcases hb with hb | hb
    · exact pX.2.2 a ha b hb
    · exact h2 a ha b hb
    · have := h1 b hb a ha
      cases hba : lt b a with
      | false => rfl
      | true => have := O.trans a b a this hba; rw [O.irrefl] at this; cases this
    · exact pY.2.2 a ha b hb
  · have e : Stb lt ((X1 ++ X2) ++ (Y1 ++ Y2)) ((X1 ++ Y1) ++ (X2 ++ Y2)) := by
      have := (Stb.refl (lt := lt) (l := X1)).app ((Stb.swap O h1).app (Stb.refl (lt := lt) (l := Y2)))
      simpa [List.append_assoc] using this
    exact e.trans (s1.app s2)
/-- One element laid into a sorted list, behind its equals. -/
theorem insert_step (O : SWO lt) {y : α} (hX : Srt lt (X1 ++ X2)) (h1 : ∀ x ∈ X2, lt y x = true) (h2 : ∀ x ∈ X1, lt y x = false) : Srt lt (X1 ++ y :: X2) ∧ Stb lt ((X1 ++ X2) ++ [y]) (X1 ++ y :: X2) := by
  have pX := List.pairwise_append.1 hX
  have h1' : ∀ x ∈ X2, lt x y = false := fun x hx => by
    cases hxy : lt x y with
    | false => rfl
    | true => have := O.trans y x y (h1 x hx) hxy; rw [O.irrefl] at this; cases this
  refine ⟨List.pairwise_append.2 ⟨pX.1, List.pairwise_cons.2 ⟨h1', pX.2.1⟩, fun a ha b hb => ?_⟩, ?_⟩
  · rcases List.mem_cons.1 hb with rfl | hb
    · exact h2 a ha
    · exact pX.2.2 a ha b hb
  · have := (Stb.refl (lt := lt) (l := X1)).app (Stb.swap (X := X2) (Y := [y]) O (fun x hx z hz => by rw [List.mem_singleton] at hz; rw [hz]; exact h1 x hx))
    simpa [List.append_assoc] using this
end

/-! ### Arrays as lists -/
section
variable {α : Type} [Inhabited α] {lt : α → α → Bool} {d d' : Array α} {A B C : List α} {x y : α} {i j : Nat}
theorem nth_at (h : d.toList = A ++ x :: B) (hi : i = A.length) : d[i]! = x := by
  have hl : i < d.size := by rw [← Array.length_toList, h]; simp; omega
  rw [getElem!_pos d i hl]
  have : d.toList[i]? = some x := by rw [h, hi]; simp
  rw [Array.getElem?_toList, Array.getElem?_eq_getElem hl] at this
  exact Option.some.inj this
theorem nth_mem (h : d.toList = A ++ (B ++ C)) (h1 : A.length ≤ i) (h2 : i < A.length + B.length) : d[i]! ∈ B := by
  have hl : i < d.size := by rw [← Array.length_toList, h]; simp; omega
  rw [getElem!_pos d i hl, ← Array.getElem_toList]
  have : d.toList[i]? = B[i - A.length]? := by
    rw [h, List.getElem?_append_right h1, List.getElem?_append_left (by omega)]
  have hb : i - A.length < B.length := by omega
  rw [List.getElem?_eq_getElem (by rw [Array.length_toList]; exact hl), List.getElem?_eq_getElem hb] at this
  rw [Option.some.inj this]
  exact List.getElem_mem hb
theorem swp_comm (d : Array α) {i j : Nat} (hi : i < d.size) (hj : j < d.size) : swp d i j = swp d j i := by
  by_cases h : i = j
  · rw [h]
  · apply Array.ext_getElem?
    intro k
    unfold swp
    simp only [Array.getElem?_setIfInBounds, Array.size_setIfInBounds]
    by_cases hki : i = k
    · subst hki
      rw [if_neg (fun e => h e.symm), if_pos rfl, if_pos rfl]
    · by_cases hkj : j = k
      · subst hkj; simp [h]
      · simp [hki, hkj]
theorem swp_list (h : d.toList = A ++ x :: (B ++ y :: C)) (hi : i = A.length) (hj : j = A.length + 1 + B.length) : (swp d i j).toList = A ++ y :: (B ++ x :: C) := by
  have hx : d[i]! = x := nth_at h hi
  have hy : d[j]! = y := nth_at (A := A ++ x :: B) (B := C) (by rw [h]; simp) (by rw [hj]; simp; omega)
  unfold swp
  rw [hx, hy, Array.toList_setIfInBounds, Array.toList_setIfInBounds, h, hi, hj]
  rw [List.set_append_right _ _ (Nat.le_refl _), Nat.sub_self, List.set_cons_zero, List.set_append_right _ _ (by omega)]
  rw [show A.length + 1 + B.length - A.length = B.length + 1 by omega, List.set_cons_succ, List.set_append_right _ _ (Nat.le_refl _), Nat.sub_self, List.set_cons_zero]
theorem swp_list' (h : d.toList = A ++ x :: (B ++ y :: C)) (hi : i = A.length) (hj : j = A.length + 1 + B.length) : (swp d j i).toList = A ++ y :: (B ++ x :: C) := by
  have hl : d.size = A.length + 1 + B.length + 1 + C.length := by rw [← Array.length_toList, h]; simp; omega
  rw [swp_comm d (by omega) (by omega)]
  exact swp_list h hi hj

/-- A part of the array that is sorted, by places. -/
theorem srt_part (h : d.toList = A ++ (B ++ C)) (hs : Srt lt B) {p q : Nat} (h1 : A.length ≤ p) (h2 : p < q) (h3 : q < A.length + B.length) : lt d[q]! d[p]! = false := by
  have hl : A.length + B.length ≤ d.size := by rw [← Array.length_toList, h, List.length_append, List.length_append]; omega
  have e : ∀ k (h1 : A.length ≤ k) (h2 : k < A.length + B.length), d[k]! = B[k - A.length]'(by omega) := fun k k1 k2 => by
    rw [getElem!_pos d k (by omega), ← Array.getElem_toList]
    have : d.toList[k]? = B[k - A.length]? := by rw [h, List.getElem?_append_right k1, List.getElem?_append_left (by omega)]
    rw [List.getElem?_eq_getElem (by rw [Array.length_toList]; omega), List.getElem?_eq_getElem (by omega)] at this
    exact Option.some.inj this
  rw [e p h1 (by omega), e q (by omega) h3]
  exact List.pairwise_iff_getElem.1 hs _ _ _ _ (by omega)
theorem srt_le (O : SWO lt) (h : d.toList = A ++ (B ++ C)) (hs : Srt lt B) {p q : Nat} (h1 : A.length ≤ p) (h2 : p ≤ q) (h3 : q < A.length + B.length) : lt d[q]! d[p]! = false := by
  rcases Nat.lt_or_ge p q with hlt | hge
  · exact srt_part h hs h1 hlt h3
  · rw [show p = q by omega]; exact O.irrefl _

/-! ### Insertion, as the kit's plain words say it -/
theorem swp_stb (O : SWO lt) (hj : j + 1 < d.size) (hl : lt d[j + 1]! d[j]! = true) : Stb lt d.toList (swp d (j + 1) j).toList := by
  have hlen : j + 1 < d.toList.length := by simpa using hj
  have e : d.toList = d.toList.take j ++ d[j]! :: ([] ++ d[j + 1]! :: d.toList.drop (j + 2)) := by
    rw [getElem!_pos d j (by omega), getElem!_pos d (j + 1) hj, ← Array.getElem_toList, ← Array.getElem_toList, List.nil_append, ← List.drop_eq_getElem_cons, ← List.drop_eq_getElem_cons, List.take_append_drop]
  have hs : (swp d (j + 1) j).toList = d.toList.take j ++ d[j + 1]! :: ([] ++ d[j]! :: d.toList.drop (j + 2)) := swp_list' (i := j) (j := j + 1) e (by simp; omega) (by simp; omega)
  rw [hs]
  have : Stb lt (d.toList.take j ++ ([d[j]!] ++ [d[j + 1]!]) ++ d.toList.drop (j + 2)) (d.toList.take j ++ ([d[j + 1]!] ++ [d[j]!]) ++ d.toList.drop (j + 2)) :=
    (Stb.refl.app (Stb.swap O (fun a ha b hb => by rw [List.mem_singleton] at ha hb; rw [ha, hb]; exact hl))).app Stb.refl
  simp only [List.append_assoc, List.singleton_append, List.nil_append, List.cons_append] at this ⊢
  simp only [List.nil_append] at e
  rw [← e] at this
  exact this
theorem insInner_stb (O : SWO lt) (a : Nat) : ∀ (j : Nat) (d : Array α), j < d.size → Stb lt d.toList (insInner lt a j d).toList ∧ (insInner lt a j d).size = d.size := by
  intro j
  induction j with
  | zero => intro d _; rw [insInner]; exact ⟨Stb.refl, rfl⟩
  | succ j ih =>
    intro d hj
    rw [insInner]
    split
    · rename_i h
      rw [Bool.and_eq_true] at h
      have := ih (swp d (j + 1) j) (by rw [size_swp]; omega)
      exact ⟨(swp_stb O hj h.2).trans this.1, this.2.trans (size_swp ..)⟩
    · exact ⟨Stb.refl, rfl⟩
theorem insOuter_stb (O : SWO lt) (a b : Nat) : ∀ (n i : Nat) (d : Array α), b - i ≤ n → b ≤ d.size → Stb lt d.toList (insOuter lt a b i d).toList ∧ (insOuter lt a b i d).size = d.size := by
  intro n
  induction n with
  | zero => intro i d h _; rw [insOuter, if_neg (by omega)]; exact ⟨Stb.refl, rfl⟩
  | succ n ih =>
    intro i d h hb
    rw [insOuter]
    split
    · have h1 := insInner_stb O a i d (by omega)
      have h2 := ih (i + 1) (insInner lt a i d) (by omega) (by rw [h1.2]; exact hb)
      exact ⟨h1.1.trans h2.1, h2.2.trans h1.2⟩
    · exact ⟨Stb.refl, rfl⟩
/-- What insertion leaves: the part is sorted, the rest untouched, the whole alike. -/
theorem insertion_part (O : SWO lt) (h : d.toList = A ++ (B ++ C)) : ∃ Z, (insertionSort lt d A.length (A.length + B.length)).toList = A ++ (Z ++ C) ∧ Z.length = B.length ∧ Srt lt Z ∧ Stb lt d.toList (A ++ (Z ++ C)) := by
  have hl : d.size = A.length + B.length + C.length := by rw [← Array.length_toList, h]; simp; omega
  obtain ⟨⟨hs, hout, _⟩, hsrt⟩ := insertionSort_holds O d A.length (A.length + B.length) (by omega) (by omega)
  have hst := (insOuter_stb O A.length (A.length + B.length) _ (A.length + 1) d (Nat.le_refl _) (by omega)).1
  obtain ⟨e, he⟩ : ∃ e, insertionSort lt d A.length (A.length + B.length) = e := ⟨_, rfl⟩
  have hst' : Stb lt d.toList e.toList := by rw [← he]; exact hst
  rw [he] at hs hout hsrt ⊢
  have hle : e.toList.length = A.length + B.length + C.length := by rw [Array.length_toList, hs, hl]
  have at_ : ∀ k, k < e.toList.length → e.toList[k]? = some e[k]! := fun k hk => by rw [Array.getElem?_toList, Array.getElem?_eq_getElem (by simpa using hk), getElem!_pos e k (by simpa using hk)]
  have at_d : ∀ k, k < d.toList.length → d.toList[k]? = some d[k]! := fun k hk => by rw [Array.getElem?_toList, Array.getElem?_eq_getElem (by simpa using hk), getElem!_pos d k (by simpa using hk)]
  have hld : d.toList.length = A.length + B.length + C.length := by rw [Array.length_toList, hl]
  have eA : e.toList.take A.length = A := by
    apply List.ext_getElem?
    intro k
    rw [List.getElem?_take]
    split
    · rename_i hk
      rw [at_ k (by omega), hout k (.inl hk), ← at_d k (by omega), h, List.getElem?_append_left hk]
    · rw [List.getElem?_eq_none (by omega)]
  have eC : e.toList.drop (A.length + B.length) = C := by
    apply List.ext_getElem?
    intro k
    rw [List.getElem?_drop]
    rcases Nat.lt_or_ge k C.length with hk | hk
    · rw [at_ _ (by omega), hout _ (.inr (by omega)), ← at_d _ (by omega), h, List.getElem?_append_right (by omega), List.getElem?_append_right (by omega)]
      congr 1; omega
    · rw [List.getElem?_eq_none (by omega), List.getElem?_eq_none (by omega)]
  have hdec : e.toList = A ++ ((e.toList.drop A.length).take B.length ++ C) := by
    conv => lhs; rw [← List.take_append_drop A.length e.toList, eA, ← List.take_append_drop B.length (e.toList.drop A.length), List.drop_drop]
    rw [eC]
  refine ⟨(e.toList.drop A.length).take B.length, hdec, by simp [hle]; omega, ?_, by rw [← hdec]; exact hst'⟩
  unfold Srt
  rw [List.pairwise_iff_getElem]
  intro p q hp hq hpq
  have hq' : q < B.length := by simp at hq; omega
  have g : ∀ k (hk : k < B.length) (hk' : k < ((e.toList.drop A.length).take B.length).length), ((e.toList.drop A.length).take B.length)[k] = e[A.length + k]! := fun k hk hk' => by
    apply Option.some.inj
    rw [← List.getElem?_eq_getElem, List.getElem?_take, if_pos hk, List.getElem?_drop, at_ _ (by omega)]
  rw [g p (by omega), g q hq']
  exact hsrt _ _ (by omega) (by omega) (by omega)
end

/-! ### Runs -/
section
variable {α : Type} (lt : α → α → Bool)
/-- The list is made of sorted runs of b elements, and a last, shorter one. -/
inductive Runs (b : Nat) : List α → Prop
  | last (T : List α) : T.length < b → Srt lt T → Runs b T
  | cons (B R : List α) : B.length = b → Srt lt B → Runs b R → Runs b (B ++ R)
/-- .. of whole ones. -/
inductive Fulls (b : Nat) : List α → Prop
  | nil : Fulls b []
  | cons (B R : List α) : B.length = b → Srt lt B → Fulls b R → Fulls b (B ++ R)
end
section
variable {α : Type} {lt : α → α → Bool} {b : Nat} {l R B : List α}
theorem Runs.cut (h : Runs lt b l) (hl : b ≤ l.length) : ∃ B R, l = B ++ R ∧ B.length = b ∧ Srt lt B ∧ Runs lt b R := by
  cases h with
  | last T h1 _ => omega
  | cons B R h1 h2 h3 => exact ⟨B, R, rfl, h1, h2, h3⟩
theorem Runs.short (h : Runs lt b l) (hl : l.length < b) : Srt lt l := by
  cases h with
  | last T _ h1 => exact h1
  | cons B R h1 h2 h3 => simp at hl; omega
theorem Runs.whole (h : Runs lt b l) (hl : l.length ≤ b) : Srt lt l := by
  cases h with
  | last T _ h1 => exact h1
  | cons B R h1 h2 h3 =>
    have : R = [] := List.eq_nil_of_length_eq_zero (by simp at hl; omega)
    rw [this, List.append_nil]; exact h2
theorem Fulls.runs (h : Fulls lt b l) (k : Runs lt b R) : Runs lt b (l ++ R) := by
  induction h with
  | nil => exact k
  | cons B R' h1 h2 _ ih => rw [List.append_assoc]; exact .cons B _ h1 h2 ih
theorem Fulls.snoc (h : Fulls lt b l) (hb : B.length = b) (hs : Srt lt B) : Fulls lt b (l ++ B) := by
  induction h with
  | nil => have := Fulls.cons B [] hb hs .nil; simpa using this
  | cons B' R' h1 h2 _ ih => rw [List.append_assoc]; exact .cons B' _ h1 h2 ih
end
end Go.Proofs.YtjegncmkebbdfaaGreatDoor

namespace Go.Proofs.YtjegncmkebbdfaaGreatDoor
open Go.RowKit Go.Shelf Go.Lib Go.Sort
variable {P : Program} {α : Type} [Inhabited α]
/-- What the walks ask of a program: the three functions' bodies, their types; an element has k cells. -/
structure LaysNodeE (P : Program) (k : Nat) : Prop where
  mixed : P.follows .mixedOrders = true
  aE : ∀ w, (isAgg 51).run P w = .ok true w
  zE : ∀ w, (Go.sizeOf 51).run P w = .ok k w
  tU : P.underlying 0 = some (TypeDesc.tuple #[])
  aU : ∀ w, (isAgg 0).run P w = .ok false w
  zU : ∀ w, (Go.sizeOf 0).run P w = .ok 1 w
  vU : ∀ w, (zeroValue 0).run P w = .ok (Value.tuple #[]) w
  tI : P.underlying 3 = some (TypeDesc.int IntKind.i64)
  aI : ∀ w, (isAgg 3).run P w = .ok false w
  zI : ∀ w, (Go.sizeOf 3).run P w = .ok 1 w
  vI : ∀ w, (zeroValue 3).run P w = .ok (Value.int IntKind.i64 0) w
  tB : P.underlying 4 = some TypeDesc.bool
  aB : ∀ w, (isAgg 4).run P w = .ok false w
  zB : ∀ w, (Go.sizeOf 4).run P w = .ok 1 w
  vB : ∀ w, (zeroValue 4).run P w = .ok (Value.bool false) w
  tS : P.underlying 25 = some (TypeDesc.slice 51)
  aS : ∀ w, (isAgg 25).run P w = .ok false w
  zS : ∀ w, (Go.sizeOf 25).run P w = .ok 1 w
  vS : ∀ w, (zeroValue 25).run P w = .ok (Value.slice none 0 0) w
  tF : P.underlying 65 = some (TypeDesc.func #[51, 51] #[3] false)
  aF : ∀ w, (isAgg 65).run P w = .ok false w
  zF : ∀ w, (Go.sizeOf 65).run P w = .ok 1 w
  vF : ∀ w, (zeroValue 65).run P w = .ok Value.nilFunc w
  tN : P.underlying 103 = some (TypeDesc.int IntKind.u64)
  aN : ∀ w, (isAgg 103).run P w = .ok false w
  zN : ∀ w, (Go.sizeOf 103).run P w = .ok 1 w
  vN : ∀ w, (zeroValue 103).run P w = .ok (Value.int IntKind.u64 0) w
  fSw : P.funcs[182]? = some Tryz.f182
  fRo : P.funcs[169]? = some Tryz.f169
  fSy : P.funcs[143]? = some Tryz.f143
theorem laysNodeE : LaysNodeE Tryz.prog 5 := ⟨by kernel_rfl, Tryz.isAgg51, Tryz.sizeOf51, Tryz.underlying0, Tryz.isAgg0, Tryz.sizeOf0, Tryz.zeroValue0, Tryz.underlying3, Tryz.isAgg3, Tryz.sizeOf3, Tryz.zeroValue3, Tryz.underlying4, Tryz.isAgg4, Tryz.sizeOf4, Tryz.zeroValue4,
  Tryz.underlying25, Tryz.isAgg25, Tryz.sizeOf25, Tryz.zeroValue25, Tryz.underlying65, Tryz.isAgg65, Tryz.sizeOf65, Tryz.zeroValue65, Tryz.underlying103, Tryz.isAgg103, Tryz.sizeOf103, Tryz.zeroValue103,
  Tryz.func182, Tryz.func169, Tryz.func143⟩
set_option maxHeartbeats 4000000 in
set_option maxRecDepth 1000000 in
theorem swapRange_NodeE {k : Nat} (L : LaysNodeE P k) (enc : α → List Value) (g : Nat) (cb : Array Value) (blk off cap a b n : Nat) (d0 d : Array α) (w0 w : World) (R : RowK enc k w0 blk off d0) (hs : d0.size = d.size) (S : SWK enc k w0 blk off d w)
    (A U M V Q : List α) (hd : d.toList = A ++ (U ++ (M ++ (V ++ Q)))) (hV : V.length = n) (hU : U.length = n) (ha : A.length = a) (hb : a + n + M.length = b) (hsz : d.size < 4611686018427387904) :
    Calls P 182 #[.slice (some ⟨blk, off, none⟩) d.size cap, .int .i64 a, .int .i64 b, .int .i64 n, .func (.func g) #[] cb] w fun e w' =>
      e = .returned (.tuple #[]) ∧ ∃ d' : Array α, d'.toList = A ++ (V ++ (M ++ (U ++ Q))) ∧ SWK enc k w0 blk off d' w' := by
  obtain ⟨mixed, aE, zE, tU, aU, zU, vU, tI, aI, zI, vI, tB, aB, zB, vB, tS, aS, zS, vS, tF, aF, zF, vF, tN, aN, zN, vN, fSw, fRo, fSy⟩ := L
  have S0 : Aside (SWK enc k w0 blk off d w) := S
  have hdl : d.size = a + n + M.length + n + Q.length := by rw [← Array.length_toList, hd]; simp; omega
  have HD : Hid (d.toList = A ++ (U ++ (M ++ (V ++ Q)))) := hd
  clear S hd
  have HL : Hid (A.length = a ∧ U.length = n ∧ V.length = n ∧ a + n + M.length = b) := ⟨ha, hU, hV, hb⟩
  have hab : a + n ≤ b := by omega
  have hbn : b + n ≤ d.size := by omega
  clear ha hU hV hb hdl
  go_enter fSw, Tryz.ntmps182
  go_wp2
  go_loopg [10] n (fun kx s10 wr => ∃ (i : Nat) (dk : Array α), s10 = .int .i64 i ∧ i ≤ n ∧ n - i ≤ kx ∧ dk.size = d.size ∧ Aside (SWK enc k w0 blk off dk wr) ∧ Hid (dk.toList = A ++ (V.take i ++ (U.drop i ++ (M ++ (U.take i ++ (V.drop i ++ Q)))))))
  case atStart => exact ⟨0, d, rfl, Nat.zero_le _, Nat.le_refl _, rfl, S0, by show _ = _; rw [HD.out]; simp⟩
  case round =>
    clear S0
    obtain ⟨i, dk, rfl, hi, hkx, hds, S1, HE⟩ := hrel
    by_cases hlt : i < n
    · have hz : (i : Int) < (n : Int) := by omega
      go_wp2_with fail
      have ea31 : ((a : Int) + (i : Int)).toNat = a + i := by omega
      have pa31 : (0 : Int) ≤ (a : Int) + (i : Int) := by omega
      have ba31 : (a : Int) + (i : Int) < (d.size : Int) := by omega
      have ra31 : IntKind.i64.wrap ((a : Int) + (i : Int)) = (a : Int) + (i : Int) := by rw [IntKind.wrap_i64]; omega
      have ec31 : ((b : Int) + (i : Int)).toNat = b + i := by omega
      have pc31 : (0 : Int) ≤ (b : Int) + (i : Int) := by omega
      have bc31 : (b : Int) + (i : Int) < (d.size : Int) := by omega
      have rc31 : IntKind.i64.wrap ((b : Int) + (i : Int)) = (b : Int) + (i : Int) := by rw [IntKind.wrap_i64]; omega
      have S2 : Aside (SWK enc k w0 blk off (swp dk (a + i) (b + i)) ((wr.drew.setCells blk (off + (a + i) * k) (enc dk[b + i]!)).setCells blk (off + (b + i) * k) (enc dk[a + i]!))) := S1.out.swapped R (a + i) (b + i) (by omega) (by omega)
      have l31a := S1.out.ld1 R (by omega) P (a + i) (by omega)
      have l31b := S1.out.ld1 R (by omega) P (b + i) (by omega)
      have s31a := S1.out.st1 R (by omega) P (a + i) (by omega) dk[b + i]!
      have s31b := S1.out.st2 R (by omega) P (a + i) (b + i) (by omega) (by omega) dk[b + i]! dk[a + i]!
      have n31a : (enc dk[a + i]!).length = k := R.hk _
      have n31b : (enc dk[b + i]!).length = k := R.hk _
      generalize enc dk[a + i]! = cI31 at S2 l31a s31b n31a
      generalize enc dk[b + i]! = cJ31 at S2 l31b s31a s31b n31b
      clear S1
      go_wp2_with fail
      go_big_region_o
      clear l31a l31b s31a s31b
      generalize (wr.drew.setCells blk (off + (a + i) * k) cJ31).setCells blk (off + (b + i) * k) cI31 = w2 at S2 ⊢
      go_wp2
      go_roundg (n - (i + 1))
      case measure => omega
      case rel =>
        refine ⟨i + 1, swp dk (a + i) (b + i), by go_num, by omega, Nat.le_refl _, by rw [size_swp]; exact hds, S2, ?_⟩
        show _ = _
        obtain ⟨hA, hU, hV, hb⟩ := HL.out
        have hiU : i < U.length := by omega
        have hiV : i < V.length := by omega
        have e : dk.toList = (A ++ V.take i) ++ U[i] :: ((U.drop (i + 1) ++ (M ++ U.take i)) ++ V[i] :: (V.drop (i + 1) ++ Q)) := by
          rw [HE.out, List.drop_eq_getElem_cons hiU, List.drop_eq_getElem_cons hiV]; simp only [List.append_assoc, List.cons_append]
        rw [swp_list e (by simp; omega) (by simp; omega), List.take_add_one, List.take_add_one, List.getElem?_eq_getElem hiU, List.getElem?_eq_getElem hiV]
        simp only [List.append_assoc, List.cons_append, Option.toList_some, List.nil_append]
    · have hz : ¬ (i : Int) < (n : Int) := by omega
      go_wp2
      go_end0
      obtain ⟨hA, hU, hV, hb⟩ := HL.out
      refine ⟨rfl, dk, ?_, S1.out⟩
      rw [HE.out, List.take_of_length_le (by omega), List.take_of_length_le (by omega), List.drop_eq_nil_of_le (by omega), List.drop_eq_nil_of_le (by omega)]
      simp
set_option maxHeartbeats 4000000 in
set_option maxRecDepth 1000000 in
theorem rotate_NodeE {k : Nat} (L : LaysNodeE P k) (enc : α → List Value) (g : Nat) (cb : Array Value) (blk off cap a m b : Nat) (d0 d : Array α) (w0 w : World) (R : RowK enc k w0 blk off d0) (hs : d0.size = d.size) (S : SWK enc k w0 blk off d w)
    (A X Y Q : List α) (hd : d.toList = A ++ (X ++ (Y ++ Q))) (ha : A.length = a) (hm : a + X.length = m) (hb : m + Y.length = b) (hX : 0 < X.length) (hY : 0 < Y.length) (hsz : d.size < 4611686018427387904) :
    Calls P 169 #[.slice (some ⟨blk, off, none⟩) d.size cap, .int .i64 a, .int .i64 m, .int .i64 b, .func (.func g) #[] cb] w fun e w' =>
      e = .returned (.tuple #[]) ∧ ∃ d' : Array α, d'.toList = A ++ (Y ++ (X ++ Q)) ∧ SWK enc k w0 blk off d' w' := by
  have HCALL := fun (a b n : Nat) (d : Array α) (w : World) hs S A U M V Q hd hV hU ha hb hsz => swapRange_NodeE L enc g cb blk off cap a b n d0 d w0 w R hs S A U M V Q hd hV hU ha hb hsz
  have HCL : Aside _ := HCALL
  clear HCALL
  obtain ⟨mixed, aE, zE, tU, aU, zU, vU, tI, aI, zI, vI, tB, aB, zB, vB, tS, aS, zS, vS, tF, aF, zF, vF, tN, aN, zN, vN, fSw, fRo, fSy⟩ := L
  have eSw : ∀ args w, (callFunc 182 args).run P w = .ok (.enter 182 args) w := enters_of fSw (by kernel_rfl) rfl
  have S0 : Aside (SWK enc k w0 blk off d w) := S
  have hdl : d.size = b + Q.length := by rw [← Array.length_toList, hd]; simp; omega
  have HD : Hid (d.toList = A ++ (X ++ (Y ++ Q))) := hd
  obtain ⟨i0, hi0⟩ : ∃ i0, X.length = i0 := ⟨_, rfl⟩
  obtain ⟨j0, hj0⟩ : ∃ j0, Y.length = j0 := ⟨_, rfl⟩
  have hmi : m = a + i0 := by omega
  have hbj : b = a + i0 + j0 := by omega
  subst hmi hbj
  have hXi : 0 < i0 := by omega
  have hYj : 0 < j0 := by omega
  have hbd : a + i0 + j0 ≤ d.size := by omega
  have HN : Hid (X.length = i0 ∧ Y.length = j0 ∧ A.length = a ∧ d.size = a + i0 + j0 + Q.length) := ⟨hi0, hj0, ha, hdl⟩
  clear S hd hi0 hj0 ha hm hb hX hY hdl
  have hiz : ((a + i0 : Nat) : Int) - (a : Int) = (i0 : Int) := by omega
  have hjz : ((a + i0 + j0 : Nat) : Int) - ((a + i0 : Nat) : Int) = (j0 : Int) := by omega
  generalize hMz : ((a + i0 : Nat) : Int) = mz at hiz hjz ⊢
  generalize hBz : ((a + i0 + j0 : Nat) : Int) = bz at hjz ⊢
  have HZ : Hid (((a + i0 : Nat) : Int) = mz ∧ ((a + i0 + j0 : Nat) : Int) = bz) := ⟨hMz, hBz⟩
  clear hMz hBz
  go_enter fRo, Tryz.ntmps169
  go_wp2
  go_loopg [10, 11] (i0 + j0) (fun kx s10 s11 wr => ∃ (i j : Nat) (dk : Array α) (B U V C : List α), s10 = .int .i64 i ∧ s11 = .int .i64 j ∧ 0 < i ∧ 0 < j ∧ i + j ≤ kx ∧ kx ≤ i0 + j0 ∧ Hid (U.length = i ∧ V.length = j ∧ B.length + i = a + i0 ∧ a + i0 + j + C.length = d.size ∧ dk.size = d.size) ∧ Aside (SWK enc k w0 blk off dk wr) ∧ Hid (dk.toList = B ++ (U ++ (V ++ C))) ∧ Hid (B ++ (V ++ (U ++ C)) = A ++ (Y ++ (X ++ Q))))
  case atStart => exact ⟨i0, j0, d, A, X, Y, Q, rfl, rfl, hXi, hYj, Nat.le_refl _, Nat.le_refl _, (by obtain ⟨a1, a2, a3, a4⟩ := HN.out; exact ⟨a1, a2, by omega, by omega, rfl⟩), S0, HD, rfl⟩
  case round =>
    clear S0
    obtain ⟨i, j, dk, B, U, V, C, rfl, rfl, hi, hj, hkx, hkn, HL, S1, HE, HG⟩ := hrel
    have hms : (a + i0) + j ≤ d.size ∧ i ≤ a + i0 := by obtain ⟨a1, a2, a3, a4, a5⟩ := HL.out; omega
    have him : (((a + i0 - i : Nat) : Int)) = mz - (i : Int) := by have := HZ.out.1; omega
    have hds : dk.size = d.size := HL.out.2.2.2.2
    have ew1 : IntKind.i64.wrap (mz - (i : Int)) = mz - (i : Int) := by have := HZ.out.1; rw [IntKind.wrap_i64]; omega
    by_cases hij : i = j
    · subst hij
      have hz : ((i : Int) != (i : Int)) = false := by simp
      have hcall : Calls P 182 #[.slice (some ⟨blk, off, none⟩) d.size cap, .int .i64 (mz - (i : Int)), .int .i64 mz, .int .i64 i, .func (.func g) #[] cb] wr fun e w' => e = .returned (.tuple #[]) ∧ ∃ d' : Array α, d'.toList = B ++ (V ++ ([] ++ (U ++ C))) ∧ SWK enc k w0 blk off d' w' := by
        obtain ⟨a1, a2, a3, a4, a5⟩ := HL.out
        have h := HCL.out (a + i0 - i) (a + i0) i dk wr (by omega) S1.out B U [] V C (by rw [HE.out]; simp) (by omega) a1 (by omega) (by simp; omega) (by omega)
        rw [hds, him, HZ.out.1] at h
        exact h
      clear S1
      go_wp2_with (go_at_fn 182; refine hcall.mono ?_; rintro e w1 ⟨rfl, d2, hd2, S2⟩)
      go_end0
      refine ⟨rfl, d2, ?_, S2⟩
      rw [hd2, ← HG.out]; simp
    · have hz : ((i : Int) != (j : Int)) = true := by simp; omega
      by_cases hgt : j < i
      · have hz2 : (j : Int) < (i : Int) := by omega
        have hcall : Calls P 182 #[.slice (some ⟨blk, off, none⟩) d.size cap, .int .i64 (mz - (i : Int)), .int .i64 mz, .int .i64 j, .func (.func g) #[] cb] wr fun e w' => e = .returned (.tuple #[]) ∧ ∃ d' : Array α, d'.toList = B ++ (V ++ (U.drop j ++ (U.take j ++ C))) ∧ SWK enc k w0 blk off d' w' := by
          obtain ⟨a1, a2, a3, a4, a5⟩ := HL.out
          have h := HCL.out (a + i0 - i) (a + i0) j dk wr (by omega) S1.out B (U.take j) (U.drop j) V C (by rw [HE.out, ← List.append_assoc (U.take j), List.take_append_drop]) a2 (by simp; omega) (by omega) (by simp; omega) (by omega)
          rw [hds, him, HZ.out.1] at h
          exact h
        clear S1
        go_wp2_with (go_at_fn 182; refine hcall.mono ?_; rintro e w1 ⟨rfl, d2, hd2, S2⟩)
        go_roundg (i - j + j)
        case measure => omega
        case rel =>
          have hl2 : d2.size = d.size := by obtain ⟨a1, a2, a3, a4, a5⟩ := HL.out; rw [← Array.length_toList, hd2]; simp; omega
          exact ⟨i - j, j, d2, B ++ V, U.drop j, U.take j, C, by congr 1; omega, rfl, by omega, hj, Nat.le_refl _, by omega, (by obtain ⟨a1, a2, a3, a4, a5⟩ := HL.out; exact ⟨by simp; omega, by simp; omega, by simp; omega, by omega, hl2⟩), S2, (show Hid _ by show _ = _; rw [hd2]; simp only [List.append_assoc]), (show Hid _ by show _ = _; rw [← HG.out, ← List.append_assoc (U.take j), List.take_append_drop, List.append_assoc])⟩
      · have hz2 : ¬ (j : Int) < (i : Int) := by omega
        have him2 : (((a + i0 + j - i : Nat) : Int)) = mz + (j : Int) - (i : Int) := by have := HZ.out.1; omega
        have ew2 : IntKind.i64.wrap (mz + (j : Int)) = mz + (j : Int) := by have := HZ.out.1; rw [IntKind.wrap_i64]; omega
        have ew3 : IntKind.i64.wrap (mz + (j : Int) - (i : Int)) = mz + (j : Int) - (i : Int) := by have := HZ.out.1; rw [IntKind.wrap_i64]; omega
        have hcall : Calls P 182 #[.slice (some ⟨blk, off, none⟩) d.size cap, .int .i64 (mz - (i : Int)), .int .i64 (mz + (j : Int) - (i : Int)), .int .i64 i, .func (.func g) #[] cb] wr fun e w' => e = .returned (.tuple #[]) ∧ ∃ d' : Array α, d'.toList = B ++ (V.drop (j - i) ++ (V.take (j - i) ++ (U ++ C))) ∧ SWK enc k w0 blk off d' w' := by
          obtain ⟨a1, a2, a3, a4, a5⟩ := HL.out
          have h := HCL.out (a + i0 - i) (a + i0 + j - i) i dk wr (by omega) S1.out B U (V.take (j - i)) (V.drop (j - i)) C (by rw [HE.out, ← List.append_assoc (V.take (j - i)), List.take_append_drop]) (by simp; omega) a1 (by omega) (by simp; omega) (by omega)
          rw [hds, him, him2] at h
          exact h
        clear S1
        go_wp2_with (go_at_fn 182; refine hcall.mono ?_; rintro e w1 ⟨rfl, d2, hd2, S2⟩)
        go_roundg (i + (j - i))
        case measure => omega
        case rel =>
          have hl2 : d2.size = d.size := by obtain ⟨a1, a2, a3, a4, a5⟩ := HL.out; rw [← Array.length_toList, hd2]; simp; omega
          exact ⟨i, j - i, d2, B, V.drop (j - i), V.take (j - i), U ++ C, rfl, by congr 1; omega, hi, by omega, Nat.le_refl _, by omega, (by obtain ⟨a1, a2, a3, a4, a5⟩ := HL.out; exact ⟨by simp; omega, by simp; omega, by omega, by simp; omega, hl2⟩), S2, hd2, (show Hid _ by show _ = _; rw [← HG.out, ← List.append_assoc (V.take (j - i)), List.take_append_drop])⟩
end Go.Proofs.YtjegncmkebbdfaaGreatDoor

namespace Go.Proofs.YtjegncmkebbdfaaGreatDoor
open Go.RowKit Go.Shelf Go.Lib Go.Sort
variable {P : Program} {α : Type} [Inhabited α]
/-- What a merge leaves. -/
def SymPost (enc : α → List Value) (k : Nat) (w0 : World) (blk off : Nat) (lt : α → α → Bool) (A X Y Q : List α) (e : Ending) (w' : World) : Prop :=
  e = .returned (.tuple #[]) ∧ ∃ (d' : Array α) (Z : List α), d'.toList = A ++ (Z ++ Q) ∧ Srt lt Z ∧ Stb lt (X ++ Y) Z ∧ SWK enc k w0 blk off d' w'
/-- Where the two runs are parted. -/
theorem part_ok {lt : α → α → Bool} (O : SWO lt) {d : Array α} {A X Y Q : List α} {a m b s n : Nat} (hd : d.toList = A ++ (X ++ (Y ++ Q))) (ha : A.length = a) (hm : a + X.length = m) (hb : m + Y.length = b) (hX : Srt lt X) (hY : Srt lt Y)
    (has : a ≤ s) (hsm : s ≤ m) (hn : m + s ≤ n) (hnb : n ≤ b + s) {s0 r0 : Nat} (h0 : s0 = a ∨ n - s0 = b) (hr : r0 = m ∨ n - r0 = m) (hs0 : s0 ≤ s) (hsr : s ≤ r0) (hr0 : r0 ≤ m)
    (HI : ∀ c, s0 ≤ c → c < s → lt d[n - 1 - c]! d[c]! = false) (HJ : ∀ c, s ≤ c → c < r0 → lt d[n - 1 - c]! d[c]! = true) :
    (∀ x ∈ X.drop (s - a), ∀ y ∈ Y.take (n - s - m), lt y x = true) ∧ (∀ x ∈ X.take (s - a), ∀ y ∈ Y.drop (n - s - m), lt y x = false) := by
  have gX : ∀ q (hq : q < X.length), d[a + q]! = X[q] := fun q hq => nth_at (A := A ++ X.take q) (B := X.drop (q + 1) ++ (Y ++ Q)) (by
    rw [hd, List.append_assoc _ (X.take q), ← List.cons_append, ← List.drop_eq_getElem_cons hq, ← List.append_assoc (X.take q), List.take_append_drop]) (by simp; omega)
  have gY : ∀ q (hq : q < Y.length), d[m + q]! = Y[q] := fun q hq => nth_at (A := (A ++ X) ++ Y.take q) (B := Y.drop (q + 1) ++ Q) (by
    rw [hd, List.append_assoc _ (Y.take q), ← List.cons_append, ← List.drop_eq_getElem_cons hq, ← List.append_assoc (Y.take q), List.take_append_drop, List.append_assoc]) (by simp; omega)
  have lX : ∀ p q, a ≤ p → p ≤ q → q < m → lt d[q]! d[p]! = false := fun p q h1 h2 h3 => srt_le O (A := A) (B := X) (C := Y ++ Q) hd hX (by omega) h2 (by omega)
  have lY : ∀ p q, m ≤ p → p ≤ q → q < b → lt d[q]! d[p]! = false := fun p q h1 h2 h3 => srt_le O (A := A ++ X) (B := Y) (C := Q) (by rw [hd]; simp) hY (by simp; omega) h2 (by simp; omega)
  refine ⟨fun x hx y hy => ?_, fun x hx y hy => ?_⟩
  · obtain ⟨p, hp, rfl⟩ := List.getElem_of_mem hx
    obtain ⟨q, hq, rfl⟩ := List.getElem_of_mem hy
    have hp' : p < X.length - (s - a) := by simpa using hp
    have hq' : q < n - s - m ∧ q < Y.length := by simp at hq; omega
    rw [List.getElem_drop, List.getElem_take, ← gX _ (by omega), ← gY _ hq'.2]
    rcases Nat.lt_or_ge s r0 with h | h
    · have hc := HJ s (Nat.le_refl _) h
      have h1 := lX s (a + (s - a + p)) has (by omega) (by omega)
      have h2 := lY (m + q) (n - 1 - s) (by omega) (by omega) (by omega)
      cases hf : lt d[m + q]! d[a + (s - a + p)]! with
      | true => rfl
      | false => have := O.ntrans _ _ _ (O.ntrans _ _ _ h2 hf) h1; rw [hc] at this; cases this
    · rcases hr with h' | h' <;> omega
  · obtain ⟨p, hp, rfl⟩ := List.getElem_of_mem hx
    obtain ⟨q, hq, rfl⟩ := List.getElem_of_mem hy
    have hp' : p < s - a ∧ p < X.length := by simp at hp; omega
    have hq' : q < Y.length - (n - s - m) := by simpa using hq
    rw [List.getElem_take, List.getElem_drop, ← gX _ hp'.2, ← gY _ (by omega)]
    rcases Nat.lt_or_ge s0 s with h | h
    · have hc := HI (s - 1) (by omega) (by omega)
      have h1 := lX (a + p) (s - 1) (by omega) (by omega) (by omega)
      have h2 := lY (n - 1 - (s - 1)) (m + (n - s - m + q)) (by omega) (by omega) (by omega)
      exact O.ntrans _ _ _ (O.ntrans _ _ _ h2 hc) h1
    · rcases h0 with h' | h' <;> omega
set_option maxHeartbeats 8000000 in
set_option maxRecDepth 1000000 in
/-- The left run is one element. -/
theorem symL_NodeE {k : Nat} (L : LaysNodeE P k) (enc : α → List Value) (cf : α → α → Int) (O : SWO (Go.Proofs.ltOf cf)) (g : Nat) (cb : Array Value) (blk off cap a m b : Nat) (d0 d : Array α) (w0 w : World) (eg : ∀ args w, (callFunc g args).run P w = .ok (.enter g args) w) (hcmp : CmpLays P g cb enc k cf blk off d0.size w0) (R : RowK enc k w0 blk off d0) (hs : d0.size = d.size) (S : SWK enc k w0 blk off d w)
    (A Y Q : List α) (x : α) (hd : d.toList = A ++ (x :: (Y ++ Q))) (ha : A.length = a) (hm : a + 1 = m) (hb : m + Y.length = b) (hY : Srt (Go.Proofs.ltOf cf) Y) (hsz : d.size < 4611686018427387904) :
    Calls P 143 #[.slice (some ⟨blk, off, none⟩) d.size cap, .int .i64 a, .int .i64 m, .int .i64 b, .func (.func g) #[] cb] w fun e w' =>
      e = .returned (.tuple #[]) ∧ ∃ (d' : Array α) (Z : List α), d'.toList = A ++ (Z ++ Q) ∧ Srt (Go.Proofs.ltOf cf) Z ∧ Stb (Go.Proofs.ltOf cf) (x :: Y) Z ∧ SWK enc k w0 blk off d' w' := by
  obtain ⟨mixed, aE, zE, tU, aU, zU, vU, tI, aI, zI, vI, tB, aB, zB, vB, tS, aS, zS, vS, tF, aF, zF, vF, tN, aN, zN, vN, fSw, fRo, fSy⟩ := L
  have HC : Aside _ := hcmp
  have S0 : Aside (SWK enc k w0 blk off d w) := S
  have hdl : d.size = b + Q.length := by rw [← Array.length_toList, hd]; simp; omega
  have hle : ∀ p q, m ≤ p → p ≤ q → q < b → Go.Proofs.ltOf cf d[q]! d[p]! = false := fun p q h1 h2 h3 => srt_le O (A := A ++ [x]) (B := Y) (C := Q) (by rw [hd]; simp) hY (by simp; omega) h2 (by simp; omega)
  have hxa : d[a]! = x := nth_at hd ha.symm
  have HLE : Aside (∀ p q, m ≤ p → p ≤ q → q < b → Go.Proofs.ltOf cf d[q]! d[p]! = false) := hle
  have HX : Hid (d[a]! = x) := hxa
  have HD : Hid (d.toList = A ++ (x :: (Y ++ Q)) ∧ A.length = a ∧ m + Y.length = b ∧ d.size = b + Q.length) := ⟨hd, ha, hb, hdl⟩
  have HY : Aside (Srt (Go.Proofs.ltOf cf) Y) := hY
  have OO : Aside (SWO (Go.Proofs.ltOf cf)) := O
  have hmb : m ≤ b := by omega
  have hbd : b ≤ d.size := by omega
  have hm1 : a < m := by omega
  have hm2 : m ≤ a + 1 := by omega
  have hone : (m : Int) - (a : Int) = 1 := by omega
  clear S hcmp hle hxa hd hdl ha hb hY O hm
  go_enter fSy, Tryz.ntmps143
  go_wp2
  go_loopg [10, 11] (b - m) (fun kx s10 s11 wr => ∃ (i j : Nat), s10 = .int .i64 i ∧ s11 = .int .i64 j ∧ m ≤ i ∧ i ≤ j ∧ j ≤ b ∧ j - i ≤ kx ∧ Aside (SWK enc k w0 blk off d wr) ∧ Aside (∀ q, m ≤ q → q < i → Go.Proofs.ltOf cf d[q]! x = true) ∧ Aside (∀ q, j ≤ q → q < b → Go.Proofs.ltOf cf d[q]! x = false))
  case atStart => exact ⟨m, b, rfl, rfl, Nat.le_refl _, by omega, Nat.le_refl _, by omega, S0, fun q h1 h2 => by omega, fun q h1 h2 => by omega⟩
  case round =>
    clear S0
    obtain ⟨i, j, rfl, rfl, hmi, hij, hjb, hkx, S1, HI, HJ⟩ := hrel
    by_cases hlt : i < j
    · have hz : (i : Int) < (j : Int) := by omega
      obtain ⟨h, hh⟩ : ∃ h : Nat, h = (i + j) / 2 := ⟨_, rfl⟩
      have e1 : IntKind.i64.wrap ((i : Int) + (j : Int)) = (i : Int) + (j : Int) := by rw [IntKind.wrap_i64]; omega
      have e2 : IntKind.u64.wrap ((i : Int) + (j : Int)) = (i : Int) + (j : Int) := by rw [IntKind.wrap_u64]; omega
      go_upto_region 5 with fail
      have eh : ((i : Int) + (j : Int)) / 2 = (h : Int) := by omega
      simp only [eh]
      have hih : i ≤ h := by omega
      have hhj : h < j := by omega
      clear eh e1 e2 hh
      have HI' := HI.out
      have HJ' := HJ.out
      have ea49 : ((h : Int)).toNat = h := by omega
      have pa49 : (0 : Int) ≤ (h : Int) := by omega
      have ba49 : (h : Int) < (d.size : Int) := by omega
      have ra49 : IntKind.i64.wrap ((h : Int)) = (h : Int) := by rw [IntKind.wrap_i64]; omega
      have ec49 : ((a : Int)).toNat = a := by omega
      have pc49 : (0 : Int) ≤ (a : Int) := by omega
      have bc49 : (a : Int) < (d.size : Int) := by omega
      have rc49 : IntKind.i64.wrap ((a : Int)) = (a : Int) := by rw [IntKind.wrap_i64]; omega
      obtain ⟨x49, hx49⟩ : ∃ x, x = d[h]! := ⟨_, rfl⟩
      obtain ⟨y49, hy49⟩ : ∃ x, x = d[a]! := ⟨_, rfl⟩
      have l49a := S1.out.ld R (by omega) P (h) (by omega)
      have l49b := S1.out.ld R (by omega) P (a) (by omega)
      rw [← hx49] at l49a
      rw [← hy49] at l49b
      have hc49 := S1.out.cmp HC.out (by omega) x49 y49
      have hxx : y49 = x := by rw [hy49]; exact HX.out
      subst hxx
      by_cases hL : cf x49 y49 < 0
      · have hd49 : decide (cf x49 y49 < 0) = true := decide_eq_true hL
        have hlt2 : Go.Proofs.ltOf cf d[h]! y49 = true := by rw [← hx49]; exact hd49
        have HI2 : Aside (∀ q, m ≤ q → q < h + 1 → Go.Proofs.ltOf cf d[q]! y49 = true) := fun q h1 h2 => by
          cases hq : Go.Proofs.ltOf cf d[q]! y49 with
          | true => rfl
          | false => have := OO.out.ntrans _ _ _ (HLE.out q h h1 (by omega) (by omega)) hq; rw [hlt2] at this; cases this
        clear HI HI' HJ' hlt2
        clear hx49 hy49
        go_wp2_with fail
        go_quiet_grown (first | (go_at_fn g; refine Calls.grown_of (hc49 _ _)))
        have S2 : Aside (SWK enc k w0 blk off d (grow (wr.drewN nq) osq)) := S1.out.grown nq osq
        clear l49a l49b hc49 S1
        generalize grow (wr.drewN nq) osq = w2 at S2 ⊢
        clear nq osq
        go_wp2
        go_roundg (j - (h + 1))
        case measure => omega
        case rel => exact ⟨h + 1, j, by go_num, rfl, by omega, by omega, hjb, Nat.le_refl _, S2, HI2, HJ⟩
      · have hd49 : decide (cf x49 y49 < 0) = false := decide_eq_false hL
        have hlt2 : Go.Proofs.ltOf cf d[h]! y49 = false := by rw [← hx49]; exact hd49
        have HJ2 : Aside (∀ q, h ≤ q → q < b → Go.Proofs.ltOf cf d[q]! y49 = false) := fun q h1 h2 => OO.out.ntrans _ _ _ (HLE.out h q (by omega) h1 h2) hlt2
        clear HJ HI' HJ' hlt2
        clear hx49 hy49
        go_wp2_with fail
        go_quiet_grown (first | (go_at_fn g; refine Calls.grown_of (hc49 _ _)))
        have S2 : Aside (SWK enc k w0 blk off d (grow (wr.drewN nq) osq)) := S1.out.grown nq osq
        clear l49a l49b hc49 S1
        generalize grow (wr.drewN nq) osq = w2 at S2 ⊢
        clear nq osq
        go_wp2
        go_roundg (h - i)
        case measure => omega
        case rel => exact ⟨i, h, rfl, rfl, hmi, by omega, by omega, Nat.le_refl _, S2, HI, HJ2⟩
    · have hz : ¬ (i : Int) < (j : Int) := by omega
      have hji : j = i := by omega
      subst hji
      have hyl : j - m ≤ Y.length := by have := HD.out.2.2.1; omega
      have HS0 : Hid (d.toList = A ++ (Y.take (a - a) ++ (x :: (Y.drop (a - a) ++ Q)))) := by show _ = _; rw [HD.out.1]; simp
      go_wp2
      go_loopg [13] (j - 1 - a) (fun kx s13 wr => ∃ (p : Nat) (dk : Array α), s13 = .int .i64 p ∧ a ≤ p ∧ p ≤ j - 1 ∧ j - 1 - p ≤ kx ∧ dk.size = d.size ∧ Aside (SWK enc k w0 blk off dk wr) ∧ Hid (dk.toList = A ++ (Y.take (p - a) ++ (x :: (Y.drop (p - a) ++ Q)))))
      case atStart => exact ⟨a, d, rfl, Nat.le_refl _, by omega, Nat.le_refl _, rfl, S1, HS0⟩
      case round =>
        clear S1 HS0
        obtain ⟨p, dk, rfl, hap, hpj, hkx2, hds, S1, HE⟩ := hrel
        have hw1 : IntKind.i64.wrap ((j : Int) - 1) = (j : Int) - 1 := by rw [IntKind.wrap_i64]; omega
        by_cases hlt2 : p < j - 1
        · have hz2 : (p : Int) < (j : Int) - 1 := by omega
          have ew : IntKind.i64.wrap ((p : Int) + 1) = (p : Int) + 1 := by rw [IntKind.wrap_i64]; omega
          go_wp2_with fail
          have ea71 : ((p : Int)).toNat = p := by omega
          have pa71 : (0 : Int) ≤ (p : Int) := by omega
          have ba71 : (p : Int) < (d.size : Int) := by omega
          have ra71 : IntKind.i64.wrap ((p : Int)) = (p : Int) := by rw [IntKind.wrap_i64]; omega
          have ec71 : ((p : Int) + 1).toNat = p + 1 := by omega
          have pc71 : (0 : Int) ≤ (p : Int) + 1 := by omega
          have bc71 : (p : Int) + 1 < (d.size : Int) := by omega
          have rc71 : IntKind.i64.wrap ((p : Int) + 1) = (p : Int) + 1 := by rw [IntKind.wrap_i64]; omega
          have S2 : Aside (SWK enc k w0 blk off (swp dk (p) (p + 1)) ((wr.drew.setCells blk (off + (p) * k) (enc dk[p + 1]!)).setCells blk (off + (p + 1) * k) (enc dk[p]!))) := S1.out.swapped R (p) (p + 1) (by omega) (by omega)
          have l71a := S1.out.ld1 R (by omega) P (p) (by omega)
          have l71b := S1.out.ld1 R (by omega) P (p + 1) (by omega)
          have s71a := S1.out.st1 R (by omega) P (p) (by omega) dk[p + 1]!
          have s71b := S1.out.st2 R (by omega) P (p) (p + 1) (by omega) (by omega) dk[p + 1]! dk[p]!
          have n71a : (enc dk[p]!).length = k := R.hk _
          have n71b : (enc dk[p + 1]!).length = k := R.hk _
          generalize enc dk[p]! = cI71 at S2 l71a s71b n71a
          generalize enc dk[p + 1]! = cJ71 at S2 l71b s71a s71b n71b
          clear S1
          go_wp2_with fail
          go_big_region_o
          clear l71a l71b s71a s71b
          generalize (wr.drew.setCells blk (off + (p) * k) cJ71).setCells blk (off + (p + 1) * k) cI71 = w2 at S2 ⊢
          go_wp2
          go_roundg (j - 1 - (p + 1))
          case measure => omega
          case rel =>
            refine ⟨p + 1, swp dk p (p + 1), by go_num, by omega, by omega, Nat.le_refl _, by rw [size_swp]; exact hds, S2, ?_⟩
            show _ = _
            obtain ⟨_, hA, hYb, _⟩ := HD.out
            have hpY : p - a < Y.length := by omega
            have e : dk.toList = (A ++ Y.take (p - a)) ++ x :: ([] ++ Y[p - a] :: (Y.drop (p - a + 1) ++ Q)) := by
              rw [HE.out, List.drop_eq_getElem_cons hpY]; simp only [List.append_assoc, List.cons_append, List.nil_append]
            rw [swp_list e (by simp; omega) (by simp; omega), show p + 1 - a = p - a + 1 by omega, List.take_add_one, List.getElem?_eq_getElem hpY]
            simp only [List.append_assoc, List.cons_append, Option.toList_some, List.nil_append]
        · have hz2 : ¬ (p : Int) < (j : Int) - 1 := by omega
          go_wp2
          (try simp only [Exit.inBlock, Exit.then])
          refine bodyPost_ret (results_none rfl _ _ _) rfl ?_
          have hpe : p - a = j - m := by omega
          rw [hpe] at HE
          obtain ⟨hdd, hA, hYb, _⟩ := HD.out
          have hdY : d.toList = (A ++ [x]) ++ (Y ++ Q) := by rw [hdd]; simp
          have g : ∀ q (hq : q < Y.length), d[m + q]! = Y[q] := fun q hq => nth_at (A := (A ++ [x]) ++ Y.take q) (B := Y.drop (q + 1) ++ Q) (by
            rw [hdY, List.append_assoc _ (Y.take q), ← List.cons_append, ← List.drop_eq_getElem_cons hq, ← List.append_assoc (Y.take q), List.take_append_drop]) (by simp; omega)
          have hlo : ∀ y ∈ Y.take (j - m), Go.Proofs.ltOf cf y x = true := fun y hy => by
            obtain ⟨q, hq, rfl⟩ := List.getElem_of_mem hy
            rw [List.getElem_take, ← g q (by simp at hq; omega)]
            exact HI.out _ (by omega) (by simp at hq; omega)
          have hhi : ∀ y ∈ Y.drop (j - m), Go.Proofs.ltOf cf y x = false := fun y hy => by
            obtain ⟨q, hq, rfl⟩ := List.getElem_of_mem hy
            rw [List.getElem_drop, ← g _ (by simp at hq; omega)]
            exact HJ.out _ (by omega) (by simp at hq; omega)
          have hYs : Srt (Go.Proofs.ltOf cf) (Y.take (j - m) ++ Y.drop (j - m)) := by rw [List.take_append_drop]; exact HY.out
          have hM := merge_step (X1 := []) (X2 := [x]) (Z1 := Y.take (j - m)) (Z2 := x :: Y.drop (j - m)) OO.out (by simp [Srt]) hYs (fun z hz y hy => by rw [List.mem_singleton] at hz; rw [hz]; exact hlo y hy) (fun z hz => by cases hz)
            ((List.pairwise_append.1 hYs).1) (by simpa using Stb.refl) (List.pairwise_cons.2 ⟨hhi, (List.pairwise_append.1 hYs).2.1⟩) (by simpa using Stb.refl)
          refine ⟨rfl, dk, Y.take (j - m) ++ x :: Y.drop (j - m), by rw [HE.out]; simp, hM.1, ?_, S1.out⟩
          have := hM.2
          rw [List.take_append_drop] at this
          simpa using this
set_option maxHeartbeats 8000000 in
set_option maxRecDepth 1000000 in
/-- The right run is one element, the left one is longer. -/
theorem symR_NodeE {k : Nat} (L : LaysNodeE P k) (enc : α → List Value) (cf : α → α → Int) (O : SWO (Go.Proofs.ltOf cf)) (g : Nat) (cb : Array Value) (blk off cap a m b : Nat) (d0 d : Array α) (w0 w : World) (eg : ∀ args w, (callFunc g args).run P w = .ok (.enter g args) w) (hcmp : CmpLays P g cb enc k cf blk off d0.size w0) (R : RowK enc k w0 blk off d0) (hs : d0.size = d.size) (S : SWK enc k w0 blk off d w)
    (A X Q : List α) (y : α) (hd : d.toList = A ++ (X ++ (y :: Q))) (ha : A.length = a) (hm : a + X.length = m) (hX2 : 1 < X.length) (hb : m + 1 = b) (hX : Srt (Go.Proofs.ltOf cf) X) (hsz : d.size < 4611686018427387904) :
    Calls P 143 #[.slice (some ⟨blk, off, none⟩) d.size cap, .int .i64 a, .int .i64 m, .int .i64 b, .func (.func g) #[] cb] w fun e w' =>
      e = .returned (.tuple #[]) ∧ ∃ (d' : Array α) (Z : List α), d'.toList = A ++ (Z ++ Q) ∧ Srt (Go.Proofs.ltOf cf) Z ∧ Stb (Go.Proofs.ltOf cf) (X ++ [y]) Z ∧ SWK enc k w0 blk off d' w' := by
  obtain ⟨mixed, aE, zE, tU, aU, zU, vU, tI, aI, zI, vI, tB, aB, zB, vB, tS, aS, zS, vS, tF, aF, zF, vF, tN, aN, zN, vN, fSw, fRo, fSy⟩ := L
  have HC : Aside _ := hcmp
  have S0 : Aside (SWK enc k w0 blk off d w) := S
  have hdl : d.size = b + Q.length := by rw [← Array.length_toList, hd]; simp; omega
  have hle : ∀ p q, a ≤ p → p ≤ q → q < m → Go.Proofs.ltOf cf d[q]! d[p]! = false := fun p q h1 h2 h3 => srt_le O (A := A) (B := X) (C := y :: Q) hd hX (by omega) h2 (by omega)
  have hym : d[m]! = y := nth_at (A := A ++ X) (B := Q) (by rw [hd]; simp) (by simp; omega)
  have HLE : Aside (∀ p q, a ≤ p → p ≤ q → q < m → Go.Proofs.ltOf cf d[q]! d[p]! = false) := hle
  have HX : Hid (d[m]! = y) := hym
  have HD : Hid (d.toList = A ++ (X ++ (y :: Q)) ∧ A.length = a ∧ a + X.length = m ∧ d.size = b + Q.length) := ⟨hd, ha, hm, hdl⟩
  have HXs : Aside (Srt (Go.Proofs.ltOf cf) X) := hX
  have OO : Aside (SWO (Go.Proofs.ltOf cf)) := O
  have ham : a + 1 < m := by omega
  have hmd : m < d.size := by omega
  have hone : ((m : Int) - (a : Int) == 1) = false := by rw [beq_eq_false_iff_ne]; omega
  have hone2 : (b : Int) - (m : Int) = 1 := by omega
  have hmb : m < b := by omega
  have hbd : b ≤ d.size := by omega
  clear S hcmp hle hym hd hdl ha hb hX O hm hX2
  go_enter fSy, Tryz.ntmps143
  go_wp2
  go_loopg [14, 15] (m - a) (fun kx s10 s11 wr => ∃ (i j : Nat), s10 = .int .i64 i ∧ s11 = .int .i64 j ∧ a ≤ i ∧ i ≤ j ∧ j ≤ m ∧ j - i ≤ kx ∧ Aside (SWK enc k w0 blk off d wr) ∧ Aside (∀ q, a ≤ q → q < i → Go.Proofs.ltOf cf y d[q]! = false) ∧ Aside (∀ q, j ≤ q → q < m → Go.Proofs.ltOf cf y d[q]! = true))
  case atStart => exact ⟨a, m, rfl, rfl, Nat.le_refl _, by omega, Nat.le_refl _, by omega, S0, fun q h1 h2 => by omega, fun q h1 h2 => by omega⟩
  case round =>
    clear S0
    obtain ⟨i, j, rfl, rfl, hmi, hij, hjb, hkx, S1, HI, HJ⟩ := hrel
    by_cases hlt : i < j
    · have hz : (i : Int) < (j : Int) := by omega
      obtain ⟨h, hh⟩ : ∃ h : Nat, h = (i + j) / 2 := ⟨_, rfl⟩
      have e1 : IntKind.i64.wrap ((i : Int) + (j : Int)) = (i : Int) + (j : Int) := by rw [IntKind.wrap_i64]; omega
      have e2 : IntKind.u64.wrap ((i : Int) + (j : Int)) = (i : Int) + (j : Int) := by rw [IntKind.wrap_u64]; omega
      go_upto_region 17 with fail
      have eh : ((i : Int) + (j : Int)) / 2 = (h : Int) := by omega
      simp only [eh]
      have hih : i ≤ h := by omega
      have hhj : h < j := by omega
      clear eh e1 e2 hh
      have HI' := HI.out
      have HJ' := HJ.out
      have ea49 : ((m : Int)).toNat = m := by omega
      have pa49 : (0 : Int) ≤ (m : Int) := by omega
      have ba49 : (m : Int) < (d.size : Int) := by omega
      have ra49 : IntKind.i64.wrap ((m : Int)) = (m : Int) := by rw [IntKind.wrap_i64]; omega
      have ec49 : ((h : Int)).toNat = h := by omega
      have pc49 : (0 : Int) ≤ (h : Int) := by omega
      have bc49 : (h : Int) < (d.size : Int) := by omega
      have rc49 : IntKind.i64.wrap ((h : Int)) = (h : Int) := by rw [IntKind.wrap_i64]; omega
      obtain ⟨x49, hx49⟩ : ∃ x, x = d[m]! := ⟨_, rfl⟩
      obtain ⟨y49, hy49⟩ : ∃ x, x = d[h]! := ⟨_, rfl⟩
      have l49a := S1.out.ld R (by omega) P (m) (by omega)
      have l49b := S1.out.ld R (by omega) P (h) (by omega)
      rw [← hx49] at l49a
      rw [← hy49] at l49b
      have hc49 := S1.out.cmp HC.out (by omega) x49 y49
      have hxx : x49 = y := by rw [hx49]; exact HX.out
      subst hxx
      by_cases hL : cf x49 y49 < 0
      · have hd49 : decide (cf x49 y49 < 0) = true := decide_eq_true hL
        have hlt2 : Go.Proofs.ltOf cf x49 d[h]! = true := by rw [← hy49]; exact hd49
        have HJ2 : Aside (∀ q, h ≤ q → q < m → Go.Proofs.ltOf cf x49 d[q]! = true) := fun q h1 h2 => by
          cases hq : Go.Proofs.ltOf cf x49 d[q]! with
          | true => rfl
          | false => have := OO.out.ntrans _ _ _ hq (HLE.out h q (by omega) h1 h2); rw [hlt2] at this; cases this
        clear HJ HI' HJ' hlt2
        clear hx49 hy49
        go_wp2_with fail
        go_quiet_grown (first | (go_at_fn g; refine Calls.grown_of (hc49 _ _)))
        have S2 : Aside (SWK enc k w0 blk off d (grow (wr.drewN nq) osq)) := S1.out.grown nq osq
        clear l49a l49b hc49 S1
        generalize grow (wr.drewN nq) osq = w2 at S2 ⊢
        clear nq osq
        go_wp2
        go_roundg (h - i)
        case measure => omega
        case rel => exact ⟨i, h, rfl, rfl, hmi, by omega, by omega, Nat.le_refl _, S2, HI, HJ2⟩
      · have hd49 : decide (cf x49 y49 < 0) = false := decide_eq_false hL
        have hlt2 : Go.Proofs.ltOf cf x49 d[h]! = false := by rw [← hy49]; exact hd49
        have HI2 : Aside (∀ q, a ≤ q → q < h + 1 → Go.Proofs.ltOf cf x49 d[q]! = false) := fun q h1 h2 => OO.out.ntrans _ _ _ hlt2 (HLE.out q h h1 (by omega) (by omega))
        clear HI HI' HJ' hlt2
        clear hx49 hy49
        go_wp2_with fail
        go_quiet_grown (first | (go_at_fn g; refine Calls.grown_of (hc49 _ _)))
        have S2 : Aside (SWK enc k w0 blk off d (grow (wr.drewN nq) osq)) := S1.out.grown nq osq
        clear l49a l49b hc49 S1
        generalize grow (wr.drewN nq) osq = w2 at S2 ⊢
        clear nq osq
        go_wp2
        go_roundg (j - (h + 1))
        case measure => omega
        case rel => exact ⟨h + 1, j, by go_num, rfl, by omega, by omega, hjb, Nat.le_refl _, S2, HI2, HJ⟩
    · have hz : ¬ (i : Int) < (j : Int) := by omega
      have hji : j = i := by omega
      subst hji
      have HS0 : Hid (d.toList = A ++ (X.take (m - a) ++ (y :: (X.drop (m - a) ++ Q)))) := by
        show _ = _
        obtain ⟨e1, e2, e3, e4⟩ := HD.out
        rw [e1, List.take_of_length_le (by omega), List.drop_eq_nil_of_le (by omega)]; simp
      go_wp2
      go_loopg [17] (m - j) (fun kx s13 wr => ∃ (p : Nat) (dk : Array α), s13 = .int .i64 p ∧ j ≤ p ∧ p ≤ m ∧ p - j ≤ kx ∧ dk.size = d.size ∧ Aside (SWK enc k w0 blk off dk wr) ∧ Hid (dk.toList = A ++ (X.take (p - a) ++ (y :: (X.drop (p - a) ++ Q)))))
      case atStart => exact ⟨m, d, rfl, hjb, Nat.le_refl _, Nat.le_refl _, rfl, S1, HS0⟩
      case round =>
        clear S1 HS0
        obtain ⟨p, dk, rfl, hap, hpj, hkx2, hds, S1, HE⟩ := hrel
        by_cases hlt2 : j < p
        · obtain ⟨q, rfl⟩ : ∃ q, p = q + 1 := ⟨p - 1, by omega⟩
          have hz2 : (j : Int) < (q : Int) + 1 := by omega
          go_wp2_with fail
          have ea71 : ((q : Int) + 1).toNat = q + 1 := by omega
          have pa71 : (0 : Int) ≤ (q : Int) + 1 := by omega
          have ba71 : (q : Int) + 1 < (d.size : Int) := by omega
          have ra71 : IntKind.i64.wrap ((q : Int) + 1) = (q : Int) + 1 := by rw [IntKind.wrap_i64]; omega
          have ec71 : ((q : Int)).toNat = q := by omega
          have pc71 : (0 : Int) ≤ (q : Int) := by omega
          have bc71 : (q : Int) < (d.size : Int) := by omega
          have rc71 : IntKind.i64.wrap ((q : Int)) = (q : Int) := by rw [IntKind.wrap_i64]; omega
          have S2 : Aside (SWK enc k w0 blk off (swp dk (q + 1) (q)) ((wr.drew.setCells blk (off + (q + 1) * k) (enc dk[q]!)).setCells blk (off + (q) * k) (enc dk[q + 1]!))) := S1.out.swapped R (q + 1) (q) (by omega) (by omega)
          have l71a := S1.out.ld1 R (by omega) P (q + 1) (by omega)
          have l71b := S1.out.ld1 R (by omega) P (q) (by omega)
          have s71a := S1.out.st1 R (by omega) P (q + 1) (by omega) dk[q]!
          have s71b := S1.out.st2 R (by omega) P (q + 1) (q) (by omega) (by omega) dk[q]! dk[q + 1]!
          have n71a : (enc dk[q + 1]!).length = k := R.hk _
          have n71b : (enc dk[q]!).length = k := R.hk _
          generalize enc dk[q + 1]! = cI71 at S2 l71a s71b n71a
          generalize enc dk[q]! = cJ71 at S2 l71b s71a s71b n71b
          clear S1
          go_wp2_with fail
          go_big_region_o
          clear l71a l71b s71a s71b
          generalize (wr.drew.setCells blk (off + (q + 1) * k) cJ71).setCells blk (off + (q) * k) cI71 = w2 at S2 ⊢
          go_wp2
          go_roundg (q - j)
          case measure => omega
          case rel =>
            refine ⟨q, swp dk (q + 1) q, by go_num, by omega, by omega, Nat.le_refl _, by rw [size_swp]; exact hds, S2, ?_⟩
            show _ = _
            obtain ⟨_, hA, hXb, _⟩ := HD.out
            have hpX : q - a < X.length := by omega
            have e : dk.toList = (A ++ X.take (q - a)) ++ X[q - a] :: ([] ++ y :: (X.drop (q - a + 1) ++ Q)) := by
              rw [HE.out, show q + 1 - a = q - a + 1 by omega, List.take_add_one, List.getElem?_eq_getElem hpX]; simp only [List.append_assoc, List.cons_append, List.nil_append, Option.toList_some]
            rw [swp_list' e (by simp; omega) (by simp; omega), List.drop_eq_getElem_cons hpX]
            simp only [List.append_assoc, List.cons_append, List.nil_append]
        · have hz2 : ¬ (j : Int) < (p : Int) := by omega
          go_wp2
          (try simp only [Exit.inBlock, Exit.then])
          refine bodyPost_ret (results_none rfl _ _ _) rfl ?_
          have hpe : p = j := by omega
          rw [hpe] at HE
          obtain ⟨hdd, hA, hXb, _⟩ := HD.out
          have g : ∀ q (hq : q < X.length), d[a + q]! = X[q] := fun q hq => nth_at (A := A ++ X.take q) (B := X.drop (q + 1) ++ y :: Q) (by
            rw [hdd, List.append_assoc _ (X.take q), ← List.cons_append, ← List.drop_eq_getElem_cons hq, ← List.append_assoc (X.take q), List.take_append_drop]) (by simp; omega)
          have hlo : ∀ x ∈ X.take (j - a), Go.Proofs.ltOf cf y x = false := fun x hx => by
            obtain ⟨q, hq, rfl⟩ := List.getElem_of_mem hx
            rw [List.getElem_take, ← g q (by simp at hq; omega)]
            exact HI.out _ (by omega) (by simp at hq; omega)
          have hhi : ∀ x ∈ X.drop (j - a), Go.Proofs.ltOf cf y x = true := fun x hx => by
            obtain ⟨q, hq, rfl⟩ := List.getElem_of_mem hx
            rw [List.getElem_drop, ← g _ (by simp at hq; omega)]
            exact HJ.out _ (by omega) (by simp at hq; omega)
          have hM := insert_step (y := y) (X1 := X.take (j - a)) (X2 := X.drop (j - a)) OO.out (by rw [List.take_append_drop]; exact HXs.out) hhi hlo
          rw [List.take_append_drop] at hM
          exact ⟨rfl, dk, X.take (j - a) ++ y :: X.drop (j - a), by rw [HE.out]; simp, hM.1, hM.2, S1.out⟩
end Go.Proofs.YtjegncmkebbdfaaGreatDoor

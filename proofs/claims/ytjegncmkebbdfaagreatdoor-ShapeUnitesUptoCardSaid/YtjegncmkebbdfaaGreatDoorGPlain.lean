/-
  Sorted lists of identities; what is reached in a graph: plain Lean. Conditions stand in each theorem.
-/
import Derived.Test.YtjegncmkebbdfaaGreatDoorGData
set_option linter.unusedSimpArgs false
set_option linter.unusedVariables false
namespace Go.Proofs.YtjegncmkebbdfaaGreatDoor
/-! ### Sorted lists of identities -/
def ltI (a b : IDE) : Prop := a.machine < b.machine ∨ (a.machine = b.machine ∧ a.serial < b.serial)
instance (a b : IDE) : Decidable (ltI a b) := inferInstanceAs (Decidable (_ ∨ _))
theorem ltI_irrefl (a : IDE) : ¬ ltI a a := by unfold ltI; omega
theorem ltI_trans {a b c : IDE} (h : ltI a b) (k : ltI b c) : ltI a c := by unfold ltI at *; omega
theorem ltI_total (a b : IDE) : ltI a b ∨ a = b ∨ ltI b a := by
  by_cases h : a.machine = b.machine
  · by_cases k : a.serial = b.serial
    · exact .inr (.inl (IDE.ext_iff.2 ⟨h, k⟩))
    · unfold ltI; omega
  · unfold ltI; omega
def SortedI (l : List IDE) : Prop := l.Pairwise ltI
theorem SortedI.nodup {l : List IDE} (h : SortedI l) : l.Nodup := List.Pairwise.imp (fun {a b} (hlt : ltI a b) => show a ≠ b from fun e => ltI_irrefl b (by rw [e] at hlt; exact hlt)) h
theorem sortedI_unique : ∀ {a b : List IDE}, SortedI a → SortedI b → (∀ x, x ∈ a ↔ x ∈ b) → a = b
  | [], [], _, _, _ => rfl
  | [], y :: b, _, _, h => absurd ((h y).2 List.mem_cons_self) (by simp)
  | x :: a, [], _, _, h => absurd ((h x).1 List.mem_cons_self) (by simp)
  | x :: a, y :: b, ha, hb, h => by
    obtain ⟨ha1, ha2⟩ := List.pairwise_cons.1 ha
    obtain ⟨hb1, hb2⟩ := List.pairwise_cons.1 hb
    have hxy : x = y := by
      rcases List.mem_cons.1 ((h x).1 List.mem_cons_self) with e | e
      · exact e
      · rcases List.mem_cons.1 ((h y).2 List.mem_cons_self) with e' | e'
        · exact e'.symm
        · exact absurd (ltI_trans (ha1 y e') (hb1 x e)) (ltI_irrefl x)
    subst hxy
    congr 1
    refine sortedI_unique ha2 hb2 fun z => ?_
    have hz := h z
    rw [List.mem_cons, List.mem_cons] at hz
    constructor
    · intro hza
      rcases hz.1 (.inr hza) with e | e
      · exact absurd (ha1 z hza) (by rw [e]; exact ltI_irrefl x)
      · exact e
    · intro hzb
      rcases hz.2 (.inr hzb) with e | e
      · exact absurd (hb1 z hzb) (by rw [e]; exact ltI_irrefl x)
      · exact e
def cntI (x : IDE) : List IDE → Nat
  | [] => 0
  | y :: l => if ltI y x then cntI x l + 1 else 0
theorem cntI_le (x : IDE) : ∀ l : List IDE, cntI x l ≤ l.length
  | [] => Nat.le_refl _
  | y :: l => by unfold cntI; split <;> simp [cntI_le x l]
theorem cntI_lt {x : IDE} : ∀ {l : List IDE} {j : Nat} {y : IDE}, j < cntI x l → l[j]? = some y → ltI y x
  | [], j, y, h, _ => by simp [cntI] at h
  | z :: l, j, y, h, hy => by
    unfold cntI at h
    split at h
    · rename_i hz
      cases j with
      | zero => simp at hy; exact hy ▸ hz
      | succ j => exact cntI_lt (l := l) (j := j) (by omega) (by simpa using hy)
    · omega
theorem cntI_eq {x : IDE} : ∀ {l : List IDE} {k : Nat}, k ≤ l.length → (∀ (j : Nat) (y : IDE), j < k → l[j]? = some y → ltI y x) → (∀ y, l[k]? = some y → ¬ ltI y x) → cntI x l = k
  | [], k, hk, _, _ => by simp at hk; simp [hk, cntI]
  | z :: l, k, hk, h1, h2 => by
    unfold cntI
    cases k with
    | zero => rw [if_neg (h2 z (by simp))]
    | succ k =>
      rw [if_pos (h1 0 z (by omega) (by simp)), cntI_eq (k := k) (by simpa using hk) (fun j y hj hy => h1 (j + 1) y (by omega) (by simpa using hy)) (fun y hy => h2 y (by simpa using hy))]
def putI (l : List IDE) (x : IDE) : List IDE := if l[cntI x l]? = some x then l else l.take (cntI x l) ++ [x] ++ l.drop (cntI x l)
theorem putI_mem {l : List IDE} {x y : IDE} : y ∈ putI l x ↔ y = x ∨ y ∈ l := by
  unfold putI
  split
  · rename_i h
    constructor
    · exact .inr
    · rintro (rfl | h')
      · exact List.mem_of_getElem? h
      · exact h'
  · constructor
    · intro h
      rcases List.mem_append.1 h with h | h
      · rcases List.mem_append.1 h with h | h
        · exact .inr (List.mem_of_mem_take h)
        · exact .inl (by simpa using h)
      · exact .inr (List.mem_of_mem_drop h)
    · rintro (rfl | h)
      · simp
      · rw [← List.take_append_drop (cntI x l) l] at h
        rcases List.mem_append.1 h with h | h
        · exact List.mem_append_left _ (List.mem_append_left _ h)
        · exact List.mem_append_right _ h
theorem putI_len (l : List IDE) (x : IDE) : (putI l x).length ≤ l.length + 1 := by
  unfold putI
  have := cntI_le x l
  split
  · omega
  · simp only [List.length_append, List.length_take, List.length_drop, List.length_singleton]; omega
theorem putI_sorted {l : List IDE} (h : SortedI l) (x : IDE) : SortedI (putI l x) := by
  unfold putI
  split
  · exact h
  · rename_i hne
    have hp : (l.take (cntI x l)).Pairwise ltI := h.sublist (List.take_sublist _ _)
    have hd : (l.drop (cntI x l)).Pairwise ltI := h.sublist (List.drop_sublist _ _)
    have h1 : ∀ y ∈ l.take (cntI x l), ltI y x := fun y hy => by
      obtain ⟨j, hj⟩ := List.getElem?_of_mem hy
      rw [List.getElem?_take] at hj
      split at hj
      · rename_i hjk; exact cntI_lt hjk hj
      · cases hj
    have h2 : ∀ y ∈ l.drop (cntI x l), ltI x y := fun y hy => by
      have hk : cntI x l < l.length := by
        rcases Nat.lt_or_ge (cntI x l) l.length with h | h
        · exact h
        · rw [List.drop_eq_nil_of_le h] at hy; cases hy
      have hz := List.getElem?_eq_getElem hk
      have hnlt : ¬ ltI l[cntI x l] x := by
        intro hlt
        have : cntI x l = cntI x l + 1 ∨ True := .inr trivial
        have hc : ∀ (l : List IDE), (hk : cntI x l < l.length) → ¬ ltI l[cntI x l] x := by
          intro l
          induction l with
          | nil => intro hk; simp at hk
          | cons z l ih =>
            intro hk
            by_cases hz : ltI z x
            · have e : cntI x (z :: l) = cntI x l + 1 := by rw [cntI, if_pos hz]
              have hk' : cntI x l < l.length := by rw [e] at hk; simpa using hk
              have := ih hk'
              simpa [e] using this
            · have e : cntI x (z :: l) = 0 := by rw [cntI, if_neg hz]
              simpa [e] using hz
        exact hc l hk hlt
      have hxz : ltI x l[cntI x l] := by
        rcases ltI_total x l[cntI x l] with h | h | h
        · exact h
        · exact absurd (by rw [hz, ← h]) hne
        · exact absurd h hnlt
      rw [List.drop_eq_getElem_cons hk] at hy hd
      rcases List.mem_cons.1 hy with rfl | hy
      · exact hxz
      · exact ltI_trans hxz ((List.pairwise_cons.1 hd).1 y hy)
    refine List.pairwise_append.2 ⟨List.pairwise_append.2 ⟨hp, by simp, fun a ha b hb => by rw [List.mem_singleton.1 hb]; exact h1 a ha⟩, hd, fun a ha b hb => ?_⟩
    rcases List.mem_append.1 ha with ha | ha
    · exact ltI_trans (h1 a ha) (h2 b hb)
    · rw [List.mem_singleton.1 ha]; exact h2 b hb
/-- The sorted list of a list's members. -/
def setI (l : List IDE) : List IDE := l.foldl putI []
theorem setI_fold : ∀ (l a : List IDE), SortedI a → SortedI (l.foldl putI a) ∧ ∀ x, x ∈ l.foldl putI a ↔ x ∈ a ∨ x ∈ l
  | [], a, h => ⟨h, fun x => by simp⟩
  | y :: l, a, h => by
    obtain ⟨h1, h2⟩ := setI_fold l (putI a y) (putI_sorted h y)
    refine ⟨h1, fun x => ?_⟩
    rw [List.foldl_cons, h2, putI_mem, List.mem_cons]
    constructor
    · rintro ((h | h) | h)
      · exact .inr (.inl h)
      · exact .inl h
      · exact .inr (.inr h)
    · rintro (h | h | h)
      · exact .inl (.inr h)
      · exact .inl (.inl h)
      · exact .inr h
theorem setI_sorted (l : List IDE) : SortedI (setI l) := (setI_fold l [] List.Pairwise.nil).1
theorem setI_mem {l : List IDE} {x : IDE} : x ∈ setI l ↔ x ∈ l := by
  have := (setI_fold l [] List.Pairwise.nil).2 x
  simpa [setI] using this
theorem setI_unique {l q : List IDE} (hs : SortedI q) (hm : ∀ x, x ∈ q ↔ x ∈ l) : q = setI l := sortedI_unique hs (setI_sorted l) fun x => (hm x).trans setI_mem.symm
/-! ### Graphs -/
def firstN (l : List NodeC) (x : IDE) : Option NodeC := l.find? fun n => decide (n.id = x)
theorem firstN_some {l : List NodeC} {x : IDE} {n : NodeC} (h : firstN l x = some n) : n ∈ l ∧ n.id = x :=
  ⟨List.mem_of_find?_eq_some h, by simpa using List.find?_some h⟩
theorem firstN_none {l : List NodeC} {x : IDE} : firstN l x = none ↔ ∀ n ∈ l, n.id ≠ x := by
  unfold firstN; rw [List.find?_eq_none]; simp
theorem firstE_con {l : List NodeE} {x : IDE} : firstN (conL l) x = (l.find? fun n => decide (n.id = x)).map NodeE.con := by
  unfold firstN conL
  rw [List.find?_map]
  rfl
def ids (l : List NodeC) : List IDE := l.map NodeC.id
theorem firstN_ids {l : List NodeC} {x : IDE} : (firstN l x).isSome ↔ x ∈ ids l := by
  constructor
  · intro h
    obtain ⟨n, hn⟩ := Option.isSome_iff_exists.1 h
    obtain ⟨h1, h2⟩ := firstN_some hn
    exact h2 ▸ List.mem_map_of_mem h1
  · intro h
    obtain ⟨n, hn, he⟩ := List.mem_map.1 h
    cases hf : firstN l x with
    | some _ => rfl
    | none => exact absurd he (firstN_none.1 hf n hn)
/-- Where a node's fields lead, if they are followed. -/
def refsOf (n : NodeC) : List IDE := if n.kind = 2 then [] else (n.fields.filter fun v => v.kind == 2).map ValE.ref
theorem refsOf_len (n : NodeC) : (refsOf n).length ≤ n.fields.length := by
  unfold refsOf
  split
  · simp
  · rw [List.length_map]; exact List.length_filter_le _ _
theorem refsOf_mem {n : NodeC} {y : IDE} : y ∈ refsOf n ↔ n.kind ≠ 2 ∧ ∃ v ∈ n.fields, v.kind = 2 ∧ v.ref = y := by
  unfold refsOf
  split
  · rename_i h; simp [h]
  · rename_i h
    simp only [List.mem_map, List.mem_filter, beq_iff_eq]
    constructor
    · rintro ⟨v, ⟨h1, h2⟩, h3⟩; exact ⟨h, v, h1, h2, h3⟩
    · rintro ⟨_, v, h1, h2, h3⟩; exact ⟨v, ⟨h1, h2⟩, h3⟩
inductive Reach (l : List NodeC) (roots : List IDE) : IDE → Prop
  | root {r : IDE} : r ∈ roots → (firstN l r).isSome → Reach l roots r
  | step {a y : IDE} {n : NodeC} : Reach l roots a → firstN l a = some n → y ∈ refsOf n → (firstN l y).isSome → Reach l roots y
theorem Reach.node {l : List NodeC} {roots : List IDE} {x : IDE} (h : Reach l roots x) : (firstN l x).isSome := by cases h <;> assumption
/-- What a search keeps: what it has found, and what it has still to look at. -/
structure DInv (l : List NodeC) (roots out work : List IDE) : Prop where
  sound : ∀ x ∈ out, Reach l roots x
  wsound : ∀ x ∈ work, (firstN l x).isSome → Reach l roots x
  root : ∀ r ∈ roots, (firstN l r).isSome → r ∈ out ∨ r ∈ work
  closed : ∀ x ∈ out, ∀ n, firstN l x = some n → ∀ y ∈ refsOf n, (firstN l y).isSome → y ∈ out ∨ y ∈ work
theorem DInv.start (l : List NodeC) (roots : List IDE) : DInv l roots [] roots := ⟨(fun x h => by cases h), fun _ h k => .root h k, fun _ h _ => .inr h, (fun x h => by cases h)⟩
theorem DInv.skip {l : List NodeC} {roots out work work' : List IDE} {x : IDE} (h : DInv l roots out work) (hw : ∀ y, y ∈ work ↔ y = x ∨ y ∈ work') (hx : (firstN l x).isSome → x ∈ out) : DInv l roots out work' := by
  refine ⟨h.sound, fun y hy => h.wsound y ((hw y).2 (.inr hy)), fun r hr hn => ?_, fun a ha n hn y hy hs => ?_⟩
  · rcases h.root r hr hn with h1 | h1
    · exact .inl h1
    · rcases (hw r).1 h1 with e | e
      · exact .inl (e ▸ hx (e ▸ hn))
      · exact .inr e
  · rcases h.closed a ha n hn y hy hs with h1 | h1
    · exact .inl h1
    · rcases (hw y).1 h1 with e | e
      · exact .inl (e ▸ hx (e ▸ hs))
      · exact .inr e
theorem DInv.visit {l : List NodeC} {roots out out' work work' work2 : List IDE} {x : IDE} {n : NodeC} (h : DInv l roots out work) (hw : ∀ y, y ∈ work ↔ y = x ∨ y ∈ work') (hx : firstN l x = some n) (ho : ∀ y, y ∈ out' ↔ y = x ∨ y ∈ out) (hw2 : ∀ y, y ∈ work2 ↔ y ∈ work' ∨ y ∈ refsOf n) : DInv l roots out' work2 := by
  have hrx : Reach l roots x := h.wsound x ((hw x).2 (.inl rfl)) (by rw [hx]; rfl)
  refine ⟨fun y hy => ?_, fun y hy hs => ?_, fun r hr hn => ?_, fun a ha m hm y hy hs => ?_⟩
  · rcases (ho y).1 hy with rfl | hy
    · exact hrx
    · exact h.sound y hy
  · rcases (hw2 y).1 hy with hy | hy
    · exact h.wsound y ((hw y).2 (.inr hy)) hs
    · exact .step hrx hx hy hs
  · rcases h.root r hr hn with h1 | h1
    · exact .inl ((ho r).2 (.inr h1))
    · rcases (hw r).1 h1 with e | e
      · exact .inl ((ho r).2 (.inl e))
      · exact .inr ((hw2 r).2 (.inl e))
  · rcases (ho a).1 ha with rfl | ha
    · rw [hx] at hm; injection hm with hm; subst hm
      exact .inr ((hw2 y).2 (.inr hy))
    · rcases h.closed a ha m hm y hy hs with h1 | h1
      · exact .inl ((ho y).2 (.inr h1))
      · rcases (hw y).1 h1 with e | e
        · exact .inl ((ho y).2 (.inl e))
        · exact .inr ((hw2 y).2 (.inl e))
theorem DInv.done {l : List NodeC} {roots out : List IDE} (h : DInv l roots out []) (x : IDE) : x ∈ out ↔ Reach l roots x := by
  constructor
  · exact h.sound x
  · intro hr
    induction hr with
    | root hr hs =>
      rcases h.root _ hr hs with h1 | h1
      · exact h1
      · cases h1
    | step _ hn hy hs ih =>
      rcases h.closed _ ih _ hn _ hy hs with h1 | h1
      · exact h1
      · cases h1
/-- The reached identities, in order. -/
def ReachL (l : List NodeC) (roots q : List IDE) : Prop := SortedI q ∧ ∀ x, x ∈ q ↔ Reach l roots x
theorem ReachL.unique {l : List NodeC} {roots q q' : List IDE} (h : ReachL l roots q) (h' : ReachL l roots q') : q = q' := sortedI_unique h.1 h'.1 fun x => (h.2 x).trans (h'.2 x).symm
theorem nodup_len {α : Type} [DecidableEq α] : ∀ {a b : List α}, a.Nodup → (∀ x ∈ a, x ∈ b) → a.length ≤ b.length
  | [], b, _, _ => by simp
  | x :: a, b, hn, h => by
    obtain ⟨h1, h2⟩ := List.nodup_cons.1 hn
    have hx := h x List.mem_cons_self
    have := nodup_len (a := a) (b := b.erase x) h2 (fun y hy => (List.mem_erase_of_ne (fun e => h1 (by rw [← e]; exact hy))).2 (h y (List.mem_cons_of_mem _ hy)))
    rw [List.length_erase_of_mem hx] at this
    have := List.length_pos_of_mem hx
    simp only [List.length_cons]; omega
theorem reach_len {l : List NodeC} {out : List IDE} (hn : out.Nodup) (h : ∀ x ∈ out, x ∈ ids l) : out.length ≤ l.length := by
  have : out.length ≤ (ids l).length := nodup_len hn h
  rw [ids, List.length_map] at this
  exact this
theorem reach_room {l : List NodeC} {out : List IDE} {x : IDE} (hn : out.Nodup) (h : ∀ y ∈ out, y ∈ ids l) (hx : x ∈ ids l) (ho : x ∉ out) : out.length < l.length := by
  have := reach_len (l := l) (out := x :: out) (List.nodup_cons.2 ⟨ho, hn⟩) (fun y hy => by
    rcases List.mem_cons.1 hy with rfl | hy
    · exact hx
    · exact h y hy)
  simp only [List.length_cons] at this
  omega
def fieldsN (l : List NodeC) : Nat := (l.map fun n => n.fields.length).sum
theorem fieldsN_le : ∀ {l : List NodeC} {n : NodeC}, n ∈ l → n.fields.length ≤ fieldsN l
  | [], n, h => by cases h
  | m :: l, n, h => by
    have e : fieldsN (m :: l) = m.fields.length + fieldsN l := by simp [fieldsN]
    rcases List.mem_cons.1 h with rfl | h
    · omega
    · have := fieldsN_le h; omega
/-! ### Weak stubs -/
def isStubN (l : List NodeC) (x : IDE) : Bool := match firstN l x with | some n => n.kind == 3 | none => false
def refersN (n : NodeC) (x : IDE) : Bool := n.kind == 2 && n.fields.any fun v => v.kind == 2 && decide (v.ref = x)
def weakRef (l : List NodeC) (x s : IDE) : Bool := match firstN l s with | some w => refersN w x | none => false
def weakP (l : List NodeC) (strong weak : List IDE) (x : IDE) : Bool := isStubN l x && (!decide (x ∈ strong) && (decide (x ∈ weak) || strong.any (weakRef l x)))
def keepP (l : List NodeC) (strong weak : List IDE) (x : IDE) : Bool := weakP l strong weak x || (isStubN l x && decide (x ∈ strong))
theorem Reach.mono {l : List NodeC} {a b : List IDE} (h : ∀ x ∈ a, x ∈ b) {x : IDE} (hr : Reach l a x) : Reach l b x := by
  induction hr with
  | root hr hs => exact .root (h _ hr) hs
  | step _ hn hy hs ih => exact .step ih hn hy hs
theorem keepP_mono {l : List NodeC} {s s' weak : List IDE} (h : ∀ x ∈ s, x ∈ s') {x : IDE} (hk : keepP l s weak x = true) : keepP l s' weak x = true ∧ (weakP l s' weak x = true → weakP l s weak x = true) := by
  simp only [keepP, weakP, Bool.or_eq_true, Bool.and_eq_true, Bool.not_eq_true', decide_eq_true_eq, decide_eq_false_iff_not, List.any_eq_true] at hk ⊢
  by_cases hs' : x ∈ s'
  · refine ⟨.inr ⟨by rcases hk with h1 | h1 <;> exact h1.1, hs'⟩, fun hw => absurd hs' hw.2.1⟩
  · rcases hk with ⟨h1, h2, h3⟩ | ⟨_, h2⟩
    · refine ⟨.inl ⟨h1, hs', ?_⟩, fun _ => ⟨h1, h2, h3⟩⟩
      rcases h3 with h3 | ⟨y, hy, h3⟩
      · exact .inl h3
      · exact .inr ⟨y, h y hy, h3⟩
    · exact absurd (h x h2) hs'
/-- The nodes of the identities in a list. -/
def restr (l : List NodeC) (k : List IDE) : List NodeC := l.filter fun n => decide (n.id ∈ k)
theorem firstN_restr {l : List NodeC} {k : List IDE} {x : IDE} : firstN (restr l k) x = if x ∈ k then firstN l x else none := by
  unfold firstN restr
  induction l with
  | nil => simp
  | cons n l ih =>
    by_cases hn : n.id ∈ k
    · rw [List.filter_cons_of_pos (by simpa using hn), List.find?_cons, List.find?_cons]
      by_cases he : n.id = x
      · simp [he, he ▸ hn]
      · simp only [he, decide_false]
        exact ih
    · rw [List.filter_cons_of_neg (by simpa using hn), ih, List.find?_cons]
      by_cases he : n.id = x
      · have : ¬ x ∈ k := by rw [← he]; exact hn
        simp [this]
      · simp [he]
/-- What is reached lies in a restriction that holds it. -/
theorem reach_restr {l : List NodeC} {roots k : List IDE} (hk : ∀ x, Reach l roots x → x ∈ k) (x : IDE) : Reach (restr l k) roots x ↔ Reach l roots x := by
  constructor
  · intro h
    induction h with
    | root hr hs =>
      rw [firstN_restr] at hs
      split at hs
      · exact .root hr hs
      · cases hs
    | step _ hn hy hs ih =>
      rw [firstN_restr] at hn hs
      split at hn
      · split at hs
        · exact .step ih hn hy hs
        · cases hs
      · cases hn
  · intro h
    induction h with
    | root hr hs =>
      have := hk _ (.root hr hs)
      exact .root hr (by rw [firstN_restr, if_pos this]; exact hs)
    | step ha hn hy hs ih =>
      have h1 := hk _ ha
      have h2 := hk _ (.step ha hn hy hs)
      exact .step ih (by rw [firstN_restr, if_pos h1]; exact hn) hy (by rw [firstN_restr, if_pos h2]; exact hs)
theorem weakP_restr {l : List NodeC} {strong weak k : List IDE} (h1 : ∀ x ∈ strong, x ∈ k) (h2 : ∀ x, weakP l strong weak x = true → x ∈ k) (x : IDE) : weakP (restr l k) strong weak x = weakP l strong weak x ∧ (x ∈ strong → isStubN (restr l k) x = isStubN l x) := by
  have hw : strong.any (weakRef (restr l k) x) = strong.any (weakRef l x) := by
    rw [Bool.eq_iff_iff, List.any_eq_true, List.any_eq_true]
    have : ∀ s ∈ strong, weakRef (restr l k) x s = weakRef l x s := fun s hs => by
      unfold weakRef; rw [firstN_restr, if_pos (h1 s hs)]
    constructor
    · rintro ⟨s, hs, h⟩; exact ⟨s, hs, by rw [← this s hs]; exact h⟩
    · rintro ⟨s, hs, h⟩; exact ⟨s, hs, by rw [this s hs]; exact h⟩
  have hi : x ∈ k → isStubN (restr l k) x = isStubN l x := fun h => by unfold isStubN; rw [firstN_restr, if_pos h]
  refine ⟨?_, fun h => hi (h1 x h)⟩
  by_cases hx : x ∈ k
  · unfold weakP; rw [hi hx, hw]
  · have h3 : weakP l strong weak x = false := by
      cases hh : weakP l strong weak x with
      | false => rfl
      | true => exact absurd (h2 x hh) hx
    rw [h3]
    have : isStubN (restr l k) x = false := by unfold isStubN; rw [firstN_restr, if_neg hx]
    unfold weakP; rw [this]; rfl
end Go.Proofs.YtjegncmkebbdfaaGreatDoor

/-
  The two Builds of chapter 25 answer alike: plain Lean. No condition.
-/
import Derived.Test.YthigjlllhnajbaaC25Plain3
import Derived.Test.YthigjlllhnajbaaC25Sort
namespace Go.Proofs.Ythigjlllhnajbaa
/-- The specification's put, by recursion. -/
def insL : List ListedE → ListedE → List ListedE
  | [], e => [e]
  | x :: l, e => if x.number < e.number then x :: insL l e else if x.number = e.number then x :: l else e :: x :: l
theorem put_ins : ∀ (l : List ListedE) (e : ListedE), putL l e = insL l e
  | [], e => by simp [putL, insL, countL]
  | x :: l, e => by
    have ih := put_ins l e
    by_cases h : x.number < e.number
    · have hc : countL (x :: l) e.number = countL l e.number + 1 := by simp [countL, h]
      unfold putL insL
      rw [hc, if_pos h, ← ih]
      unfold putL
      simp only [List.getElem?_cons_succ, List.take_succ_cons, List.drop_succ_cons]
      split <;> simp
    · have hc : countL (x :: l) e.number = 0 := by simp [countL, h]
      unfold putL insL
      rw [hc, if_neg h]
      simp
abbrev StrictL (l : List ListedE) : Prop := l.Pairwise fun x y => x.number < y.number
abbrev NodupN (l : List ListedE) : Prop := l.Pairwise fun x y => x.number ≠ y.number
theorem hasN_false {l : List ListedE} {n : Int} : hasN l n = false ↔ ∀ y ∈ l, y.number ≠ n := by simp [hasN]
theorem mem_ins : ∀ {l : List ListedE} {e : ListedE}, StrictL l → ∀ x, x ∈ insL l e ↔ x ∈ l ∨ (x = e ∧ ∀ y ∈ l, y.number ≠ e.number)
  | [], e, _, x => by simp [insL]
  | y :: l, e, h, x => by
    have hy : ∀ z ∈ l, y.number < z.number := fun z hz => List.rel_of_pairwise_cons h hz
    have ih := mem_ins (l := l) (e := e) h.tail x
    unfold insL
    by_cases h1 : y.number < e.number
    · rw [if_pos h1]
      simp only [List.mem_cons, ih, forall_eq_or_imp]
      constructor
      · rintro (h | h | ⟨h, h'⟩)
        · exact .inl (.inl h)
        · exact .inl (.inr h)
        · exact .inr ⟨h, by omega, h'⟩
      · rintro ((h | h) | ⟨h, _, h'⟩)
        · exact .inl h
        · exact .inr (.inl h)
        · exact .inr (.inr ⟨h, h'⟩)
    · rw [if_neg h1]
      by_cases h2 : y.number = e.number
      · rw [if_pos h2]
        simp only [List.mem_cons, forall_eq_or_imp]
        constructor
        · exact .inl
        · rintro (h | ⟨_, h, _⟩)
          · exact h
          · exact absurd h2 h
      · rw [if_neg h2]
        simp only [List.mem_cons, forall_eq_or_imp]
        constructor
        · rintro (h | h)
          · exact .inr ⟨h, h2, fun z hz => by have := hy z hz; omega⟩
          · exact .inl h
        · rintro (h | ⟨h, _⟩)
          · exact .inr h
          · exact .inl h
theorem strict_ins : ∀ {l : List ListedE} {e : ListedE}, StrictL l → StrictL (insL l e)
  | [], e, _ => by simp [insL]
  | y :: l, e, h => by
    have hy : ∀ z ∈ l, y.number < z.number := fun z hz => List.rel_of_pairwise_cons h hz
    have ih := strict_ins (l := l) (e := e) h.tail
    unfold insL
    by_cases h1 : y.number < e.number
    · rw [if_pos h1]
      refine List.pairwise_cons.2 ⟨fun z hz => ?_, ih⟩
      rcases (mem_ins h.tail z).1 hz with h | ⟨rfl, _⟩
      · exact hy z h
      · exact h1
    · rw [if_neg h1]
      by_cases h2 : y.number = e.number
      · rw [if_pos h2]; exact h
      · rw [if_neg h2]
        refine List.pairwise_cons.2 ⟨fun z hz => ?_, h⟩
        rcases List.mem_cons.1 hz with rfl | hz
        · omega
        · have := hy z hz; omega
theorem nodup_add {o : Int} {l : List ListedE} {e : StubE} (h : NodupN l) : NodupN (addN o l e) := by
  unfold addN
  split
  · rename_i h1
    refine List.pairwise_append.2 ⟨h, by simp, fun x hx y hy => ?_⟩
    rw [List.mem_singleton] at hy; subst hy
    exact hasN_false.1 h1.2 x hx
  · exact h
theorem build_both (o : Int) : ∀ (es : List StubE) (A B : List ListedE), (∀ x, x ∈ A ↔ x ∈ B) → StrictL B → NodupN A →
    (∀ x, x ∈ es.foldl (addN o) A ↔ x ∈ es.foldl (fun l e => if e.owner = o then putL l (listedOf e) else l) B) ∧ StrictL (es.foldl (fun l e => if e.owner = o then putL l (listedOf e) else l) B) ∧ NodupN (es.foldl (addN o) A)
  | [], A, B, h, hB, hA => ⟨h, hB, hA⟩
  | e :: es, A, B, h, hB, hA => by
    simp only [List.foldl_cons]
    refine build_both o es _ _ ?_ ?_ (nodup_add hA)
    · intro x
      unfold addN
      by_cases ho : e.owner = o
      · rw [if_pos ho, put_ins, mem_ins hB]
        by_cases hn : hasN A (listedOf e).number = false
        · have hn' : hasN A e.number = false := hn
          rw [if_pos ⟨ho, hn'⟩, List.mem_append, List.mem_singleton, h x]
          constructor
          · rintro (h1 | h1)
            · exact .inl h1
            · exact .inr ⟨h1, fun y hy => hasN_false.1 hn y ((h y).2 hy)⟩
          · rintro (h1 | ⟨h1, _⟩)
            · exact .inl h1
            · exact .inr h1
        · have hn' : ¬ hasN A e.number = false := hn
          rw [if_neg (fun h => hn' h.2), h x]
          constructor
          · exact .inl
          · rintro (h1 | ⟨_, h1⟩)
            · exact h1
            · exact absurd (hasN_false.2 fun y hy => h1 y ((h y).1 hy)) hn
      · rw [if_neg (fun h => ho h.1), if_neg ho]; exact h x
    · by_cases ho : e.owner = o
      · rw [if_pos ho, put_ins]; exact strict_ins hB
      · rw [if_neg ho]; exact hB
theorem build_same (o : Int) (es : List StubE) : (∀ x, x ∈ dedL o es ↔ x ∈ refBuildL o es) ∧ StrictL (refBuildL o es) ∧ NodupN (dedL o es) :=
  build_both o es [] [] (fun x => Iff.rfl) List.Pairwise.nil List.Pairwise.nil
theorem strict_nodup {l : List ListedE} (h : StrictL l) : l.Nodup := h.imp fun h e => by subst e; omega
/-- A sorted permutation of the one is the other. -/
theorem build_eq {o : Int} {es : List StubE} {l : List ListedE} (hp : l.Perm (dedL o es)) (hs : l.Pairwise fun x y => ¬ y.number < x.number) : l = refBuildL o es ∧ StrictL l := by
  obtain ⟨h1, h2, h3⟩ := build_same o es
  have hn : NodupN l := hp.symm.pairwise h3 (fun h => h.symm)
  have hst : StrictL l := (hs.and hn).imp fun ⟨a, b⟩ => by omega
  refine ⟨?_, hst⟩
  refine sorted_unique (r := fun x y => x.number < y.number) (fun x y a b => absurd a (by omega)) ?_ hst h2
  refine (List.perm_ext_iff_of_nodup (strict_nodup hst) (strict_nodup h2)).2 fun x => ?_
  rw [hp.mem_iff]; exact h1 x
theorem ded_mem {o : Int} {P : ListedE → Prop} : ∀ (es : List StubE) (l : List ListedE), (∀ e ∈ es, P (listedOf e)) → (∀ x ∈ l, P x) → ∀ x ∈ es.foldl (addN o) l, P x
  | [], l, _, hl => hl
  | e :: es, l, he, hl => by
    simp only [List.foldl_cons]
    refine ded_mem es _ (fun z hz => he z (List.mem_cons_of_mem _ hz)) fun x hx => ?_
    unfold addN at hx
    split at hx
    · rcases List.mem_append.1 hx with h | h
      · exact hl x h
      · rw [List.mem_singleton] at h; subst h; exact he e (List.mem_cons_self ..)
    · exact hl x hx
theorem okB_of_strict : ∀ {l : List ListedE}, StrictL l → (∀ x ∈ l, 0 ≤ x.distance) → okB l = true
  | [], _, _ => rfl
  | [x], _, h => by simp [okB]; exact h x (by simp)
  | x :: y :: l, h, hd => by
    simp only [okB, Bool.and_eq_true, decide_eq_true_eq]
    exact ⟨hd x (by simp), List.rel_of_pairwise_cons h (List.mem_cons_self ..), okB_of_strict h.tail fun z hz => hd z (List.mem_cons_of_mem _ hz)⟩
end Go.Proofs.Ythigjlllhnajbaa

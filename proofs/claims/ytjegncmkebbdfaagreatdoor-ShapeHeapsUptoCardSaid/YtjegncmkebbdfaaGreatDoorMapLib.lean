/-
  Maps that the call made itself, as partial functions: looked up, stored into. Conditions stand in each theorem.
-/
import Derived.Test.YtjegncmkebbdfaaGreatDoorGrpA
import Derived.MapKept
import Derived.Laws.PanicsMore
set_option linter.unusedSimpArgs false
set_option linter.unusedVariables false
namespace Go.Proofs.YtjegncmkebbdfaaGreatDoor
open Go.RowKit

/-- What the laws on maps ask of a key's type. -/
structure KeyL (P : Program) (kt : TypeId) {κ : Type} (fk : κ → Value) : Prop where
  inj : ∀ a b, fk a = fk b → a = b
  check : ∀ (w : World) (em : Bool) a, (Instr.checkKey em 10000 kt (fk a)).run P w = .ok () w
  find : ∀ (w : World) a (es : List MapEntry), (∀ e ∈ es, ∃ b, e.key = fk b) → ((Instr.findKey kt (fk a) es).run P w = .ok none w ∧ ∀ e ∈ es, e.key ≠ fk a) ∨
    ∃ j e, (Instr.findKey kt (fk a) es).run P w = .ok (some (j, e.val)) w ∧ es[j]? = some e ∧ e.key = fk a
  stays : ∀ (w : World) a, (Instr.keyThatStays (fk a) (fk a)).run P w = .ok (fk a) w
theorem keyL_int {P : Program} {kt : TypeId} {q : IntKind} (h : P.underlying kt = some (.int q)) : KeyL P kt (fun n : Int => Value.int q n) where
  inj a b e := by injection e
  check w em a := MapKept.run_checkKey h (show MapKept.IsKey (.int q) (.int q a) from rfl) em 9999
  find w a es hes := by
    have hks : ∀ y ∈ es, MapKept.IsKey (.int q) y.key := fun y hy => by
      obtain ⟨b, hb⟩ := hes y hy
      rw [hb]; rfl
    rcases MapKept.findNow_spec (show MapKept.IsKey (.int q) (.int q a) from rfl) es 0 hks with ⟨h1, h2⟩ | ⟨j, e0, h1, h2, h3⟩
    · exact .inl ⟨MapKept.run_findKey h h1, h2⟩
    · exact .inr ⟨j, e0, by simpa using MapKept.run_findKey h h1, h2, h3⟩
  stays w a := MapKept.run_keyThatStays (d := .int q) (show MapKept.IsKey (.int q) (.int q a) from rfl)
/-- A struct's key: what is asked of its own kind. -/
theorem findAsking_spec {P : Program} {kt : TypeId} {κ : Type} {fk : κ → Value} [DecidableEq κ] (heq : ∀ (w : World) a b, (Op.equal kt (fk a) (fk b)).run P w = .ok (decide (a = b)) w) (inj : ∀ a b, fk a = fk b → a = b) (w : World) (a : κ) : ∀ (es : List MapEntry) (i : Nat), (∀ e ∈ es, ∃ b, e.key = fk b) →
    ((Instr.findAsking kt (fk a) es i).run P w = .ok none w ∧ ∀ e ∈ es, e.key ≠ fk a) ∨ ∃ j e, (Instr.findAsking kt (fk a) es i).run P w = .ok (some (i + j, e.val)) w ∧ es[j]? = some e ∧ e.key = fk a
  | [], i, _ => .inl ⟨by simp [Instr.findAsking], by simp⟩
  | e :: es, i, h => by
    obtain ⟨b, hb⟩ := h e (.head _)
    by_cases hab : a = b
    · subst hab
      exact .inr ⟨0, e, by simp [Instr.findAsking, hb, heq], rfl, hb⟩
    · rcases findAsking_spec heq inj w a es (i + 1) (fun x hx => h x (.tail _ hx)) with ⟨h1, h2⟩ | ⟨j, e0, h1, h2, h3⟩
      · refine .inl ⟨by simp [Instr.findAsking, hb, heq, hab, h1], fun x hx => ?_⟩
        rcases List.mem_cons.1 hx with rfl | hx
        · rw [hb]; exact fun e => hab (inj _ _ e).symm
        · exact h2 x hx
      · exact .inr ⟨j + 1, e0, by simp [Instr.findAsking, hb, heq, hab, h1, Nat.add_assoc, Nat.add_comm 1 j], h2, h3⟩
theorem keyL_struct {P : Program} {kt : TypeId} {fs : Array Field} {κ : Type} {fk : κ → Value} [DecidableEq κ] (h : P.underlying kt = some (.struct fs)) (inj : ∀ a b, fk a = fk b → a = b) (agg : ∀ a, ∃ cs, fk a = .agg cs) (check : ∀ (w : World) (em : Bool) a, (Instr.checkKey em 10000 kt (fk a)).run P w = .ok () w)
    (heq : ∀ (w : World) a b, (Op.equal kt (fk a) (fk b)).run P w = .ok (decide (a = b)) w) (bits : ∀ a, Instr.sameBits 10000 (fk a) (fk a) = true) : KeyL P kt fk where
  inj := inj
  check := check
  find w a es hes := by
    cases es with
    | nil => exact .inl ⟨by simp [Instr.findKey, run_underlying h, Instr.findNow, Result.andThen], by simp⟩
    | cons e es =>
      have hn : Instr.findNow (.struct fs) (fk a) (e :: es) 0 = none := by
        obtain ⟨cs, hcs⟩ := agg a
        obtain ⟨b, hb⟩ := hes e (.head _)
        simp [Instr.findNow, Instr.sameNow]
      have hr : (Instr.findKey kt (fk a) (e :: es)).run P w = (Instr.findAsking kt (fk a) (e :: es) 0).run P w := by
        simp [Instr.findKey, run_underlying h, Result.andThen, hn]
      rw [hr]
      rcases findAsking_spec heq inj w a (e :: es) 0 hes with h1 | ⟨j, e0, h1, h2⟩
      · exact .inl h1
      · exact .inr ⟨j, e0, by simpa using h1, h2⟩
  stays w a := by simp [Instr.keyThatStays, bits]

/-! ### A map as a partial function -/
def MapFn {κ ν : Type} (fk : κ → Value) (fv : ν → Value) (w : World) (g : Nat) (M : κ → Option ν) : Prop :=
  ∃ es clock, w.heap[g]? = some (.map es clock) ∧ (∀ e ∈ es.toList, ∃ k v, e.key = fk k ∧ e.val = fv v ∧ M k = some v) ∧ (∀ k v, M k = some v → ∃ e ∈ es.toList, e.key = fk k) ∧ es.toList.Pairwise (fun a b => a.key ≠ b.key)
/-- The world with another object in block g. -/
def putAt (w : World) (g : Nat) (o : Obj) : World := { w with heap := w.heap.setIfInBounds g o }
def mupd {κ ν : Type} [DecidableEq κ] (M : κ → Option ν) (k : κ) (v : ν) : κ → Option ν := fun k' => if k' = k then some v else M k'
section
variable {P : Program} {kt et t : TypeId} {κ ν : Type} {fk : κ → Value} {fv : ν → Value} {w w' : World} {g : Nat} {M : κ → Option ν}
theorem MapFn.lt (h : MapFn fk fv w g M) : g < w.heap.size := by
  obtain ⟨es, c, hb, _⟩ := h
  exact blk_lt hb
theorem MapFn.below (h : MapFn fk fv w g M) (hb : Below w.heap.size w w') : MapFn fk fv w' g M := by
  obtain ⟨es, c, h1, h2⟩ := h
  exact ⟨es, c, blk_below h1 hb, h2⟩
theorem MapFn.later (h : MapFn fk fv w g M) : ∀ u [Later w u], MapFn fk fv u g M := fun _ i => h.below i.below
theorem MapFn.of_heap (h : MapFn fk fv w g M) (hb : w'.heap[g]? = w.heap[g]?) : MapFn fk fv w' g M := by
  obtain ⟨es, c, h1, h2⟩ := h
  exact ⟨es, c, hb.trans h1, h2⟩
theorem mapFn_made (w : World) : MapFn fk fv (w.alloc (.map #[] 0)) w.heap.size (fun _ => none) :=
  ⟨#[], 0, heap_alloc_new w _, by simp, by simp, by simp⟩
theorem run_look_ok (L : KeyL P kt fk) (ht : P.underlying t = some (.map kt et)) {z : Value} (hz : ∀ w, (zeroValue et).run P w = .ok z w) (h : MapFn fk fv w g M) (k : κ) :
    (Instr.lookup t (.map (some g)) (fk k) true).run P w = .ok (.tuple #[(M k).elim z fv, .bool (M k).isSome]) w := by
  obtain ⟨es, c, hb, h1, h2, h3⟩ := h
  have hks : ∀ e ∈ es.toList, ∃ b, e.key = fk b := fun e he => by obtain ⟨k, v, a, _⟩ := h1 e he; exact ⟨k, a⟩
  rcases L.find w k es.toList hks with ⟨e1, e2⟩ | ⟨j, e, e1, e2, e3⟩
  · have hM : M k = none := by
      cases hM : M k with
      | none => rfl
      | some v => obtain ⟨e, he, hk⟩ := h2 k v hM; exact absurd hk (e2 e he)
    simp [Instr.lookup, run_underlying ht, MapKept.run_getObj_map hb, L.check, e1, hz, Result.andThen, hM]
  · obtain ⟨k', v, a, b, c'⟩ := h1 e (List.mem_of_getElem? e2)
    have : k' = k := L.inj _ _ (a.symm.trans e3)
    subst this
    simp [Instr.lookup, run_underlying ht, MapKept.run_getObj_map hb, L.check, e1, Result.andThen, c', b]
theorem run_look (L : KeyL P kt fk) (ht : P.underlying t = some (.map kt et)) {z : Value} (hz : ∀ w, (zeroValue et).run P w = .ok z w) (h : MapFn fk fv w g M) (k : κ) :
    (Instr.lookup t (.map (some g)) (fk k) false).run P w = .ok ((M k).elim z fv) w := by
  obtain ⟨es, c, hb, h1, h2, h3⟩ := h
  have hks : ∀ e ∈ es.toList, ∃ b, e.key = fk b := fun e he => by obtain ⟨k, v, a, _⟩ := h1 e he; exact ⟨k, a⟩
  rcases L.find w k es.toList hks with ⟨e1, e2⟩ | ⟨j, e, e1, e2, e3⟩
  · have hM : M k = none := by
      cases hM : M k with
      | none => rfl
      | some v => obtain ⟨e, he, hk⟩ := h2 k v hM; exact absurd hk (e2 e he)
    simp [Instr.lookup, run_underlying ht, MapKept.run_getObj_map hb, L.check, e1, hz, Result.andThen, hM]
  · obtain ⟨k', v, a, b, c'⟩ := h1 e (List.mem_of_getElem? e2)
    have : k' = k := L.inj _ _ (a.symm.trans e3)
    subst this
    simp [Instr.lookup, run_underlying ht, MapKept.run_getObj_map hb, L.check, e1, Result.andThen, c', b]
/-- A store: the run, in each later world; what the map is then. -/
theorem run_store [DecidableEq κ] (L : KeyL P kt fk) (ht : P.underlying t = some (.map kt et)) (h : MapFn fk fv w g M) : ∃ U : κ → ν → Obj,
    (∀ (u : World) [Later w u] k v, (Instr.mapUpdate t (.map (some g)) (fk k) (fv v)).run P u = .ok () (putAt u g (U k v))) ∧
    (∀ (u : World) [Later w u] k v, MapFn fk fv (putAt u g (U k v)) g (mupd M k v)) ∧
    (∀ (u : World) [Later w u] k v a, (putAt u g (U k v)).cell? a = u.cell? a) ∧ (∀ (u : World) [Later w u] k v a, (putAt u g (U k v)).frozen? a = u.frozen? a) := by
  obtain ⟨es, c, hb, h1, h2, h3⟩ := h
  have hks : ∀ e ∈ es.toList, ∃ b, e.key = fk b := fun e he => by obtain ⟨k, v, a, _⟩ := h1 e he; exact ⟨k, a⟩
  have key : ∀ k v, ∃ es' c', (∀ (u : World) [Later w u], (Instr.mapUpdate t (.map (some g)) (fk k) (fv v)).run P u = .ok () (putAt u g (.map es' c'))) ∧
      (∀ e ∈ es'.toList, ∃ k' v', e.key = fk k' ∧ e.val = fv v' ∧ mupd M k v k' = some v') ∧ (∀ k' v', mupd M k v k' = some v' → ∃ e ∈ es'.toList, e.key = fk k') ∧ es'.toList.Pairwise (fun a b => a.key ≠ b.key) := by
    intro k v
    have hget : ∀ (u : World) [Later w u], u.heap[g]? = some (.map es c) := fun u i => blk_below hb i.below
    by_cases hk : ∃ e ∈ es.toList, e.key = fk k
    · -- there
      obtain ⟨j, e, he, hke, hfind⟩ : ∃ (j : Nat) (e : MapEntry), es.toList[j]? = some e ∧ e.key = fk k ∧ ∀ u : World, (Instr.findKey kt (fk k) es.toList).run P u = .ok (some (j, e.val)) u := by
        obtain ⟨e0, he0, hk0⟩ := hk
        obtain ⟨j0, hj0⟩ := List.getElem?_of_mem he0
        refine ⟨j0, e0, hj0, hk0, fun u => ?_⟩
        rcases L.find u k es.toList hks with ⟨_, e2⟩ | ⟨j, e, e1, e2, e3⟩
        · exact absurd hk0 (e2 e0 he0)
        · have hj : j = j0 := by
            rcases Nat.lt_trichotomy j j0 with hlt | heq | hgt
            · have := List.pairwise_iff_getElem.1 h3 j j0 (List.getElem?_eq_some_iff.1 e2).1 (List.getElem?_eq_some_iff.1 hj0).1 hlt
              rw [(List.getElem?_eq_some_iff.1 e2).2, (List.getElem?_eq_some_iff.1 hj0).2] at this
              exact absurd (e3.trans hk0.symm) this
            · exact heq
            · have := List.pairwise_iff_getElem.1 h3 j0 j (List.getElem?_eq_some_iff.1 hj0).1 (List.getElem?_eq_some_iff.1 e2).1 hgt
              rw [(List.getElem?_eq_some_iff.1 e2).2, (List.getElem?_eq_some_iff.1 hj0).2] at this
              exact absurd (hk0.trans e3.symm) this
          subst hj
          rw [hj0] at e2; injection e2 with e2; subst e2
          exact e1
      refine ⟨es.modify j fun e => { e with key := fk k, val := fv v }, c, fun u i => ?_, ?_, ?_, ?_⟩
      · have hge : es[j]? = some e := by simpa using he
        simp [Instr.mapUpdate, run_underlying ht, MapKept.run_getObj_map (hget u), L.check, hfind, Result.andThen, hge, hke, L.stays, MapKept.run_setObj_map _ (hget u), putAt]
      · intro x hx
        obtain ⟨i, hi⟩ := List.getElem?_of_mem hx
        rw [Array.getElem?_toList, Array.getElem?_modify] at hi
        by_cases hij : j = i
        · subst hij
          rw [if_pos rfl] at hi
          have hge : es[j]? = some e := by simpa using he
          rw [hge] at hi
          simp only [Option.map_some, Option.some.injEq] at hi
          subst hi
          exact ⟨k, v, rfl, rfl, by simp [mupd]⟩
        · rw [if_neg hij] at hi
          have hmem : x ∈ es.toList := List.mem_of_getElem? (i := i) (by simpa using hi)
          obtain ⟨k', v', a, b, d⟩ := h1 x hmem
          refine ⟨k', v', a, b, ?_⟩
          have hne : k' ≠ k := by
            rintro rfl
            have hi' : es.toList[i]? = some x := by simpa using hi
            rcases Nat.lt_or_gt_of_ne hij with hlt | hgt
            · have := List.pairwise_iff_getElem.1 h3 j i (List.getElem?_eq_some_iff.1 he).1 (List.getElem?_eq_some_iff.1 hi').1 hlt
              rw [(List.getElem?_eq_some_iff.1 he).2, (List.getElem?_eq_some_iff.1 hi').2] at this
              exact this (hke.trans a.symm)
            · have := List.pairwise_iff_getElem.1 h3 i j (List.getElem?_eq_some_iff.1 hi').1 (List.getElem?_eq_some_iff.1 he).1 hgt
              rw [(List.getElem?_eq_some_iff.1 he).2, (List.getElem?_eq_some_iff.1 hi').2] at this
              exact this (a.trans hke.symm)
          simp [mupd, hne, d]
      · intro k' v' hM
        have hsz : j < es.size := by have := (List.getElem?_eq_some_iff.1 he).1; simpa using this
        by_cases hkk : k' = k
        · subst hkk
          refine ⟨{ e with key := fk k', val := fv v }, List.mem_of_getElem? (i := j) ?_, rfl⟩
          have hge : es[j]? = some e := by simpa using he
          rw [Array.getElem?_toList, Array.getElem?_modify, if_pos rfl, hge]; rfl
        · simp only [mupd, if_neg hkk] at hM
          obtain ⟨x, hx, hxk⟩ := h2 k' v' hM
          obtain ⟨i, hi⟩ := List.getElem?_of_mem hx
          refine ⟨x, List.mem_of_getElem? (i := i) ?_, hxk⟩
          have hij : j ≠ i := by
            rintro rfl
            rw [he] at hi; injection hi with hi; subst hi
            exact hkk (L.inj _ _ (hxk.symm.trans hke))
          rw [Array.getElem?_toList, Array.getElem?_modify, if_neg hij]; simpa using hi
      · have hmap : (es.modify j fun e => { e with key := fk k, val := fv v }).toList.map (·.key) = es.toList.map (·.key) := by
          apply List.ext_getElem?
          intro i
          rw [List.getElem?_map, List.getElem?_map, Array.getElem?_toList, Array.getElem?_toList, Array.getElem?_modify]
          by_cases hij : j = i
          · subst hij
            have hge : es[j]? = some e := by simpa using he
            rw [if_pos rfl, hge]; simp [hke]
          · rw [if_neg hij]
        have hp : (es.toList.map (·.key)).Pairwise (· ≠ ·) := List.pairwise_map.2 h3
        rw [← hmap] at hp
        exact List.pairwise_map.1 hp
    · -- new
      have hno : ∀ e ∈ es.toList, e.key ≠ fk k := fun e he h => hk ⟨e, he, h⟩
      refine ⟨es.push { key := fk k, val := fv v, born := c }, c + 1, fun u i => ?_, ?_, ?_, ?_⟩
      · have e1 : (Instr.findKey kt (fk k) es.toList).run P u = .ok none u := by
          rcases L.find u k es.toList hks with ⟨e1, _⟩ | ⟨j, e, _, e2, e3⟩
          · exact e1
          · exact absurd e3 (hno e (List.mem_of_getElem? e2))
        simp [Instr.mapUpdate, run_underlying ht, MapKept.run_getObj_map (hget u), L.check, e1, Result.andThen, MapKept.run_setObj_map _ (hget u), putAt]
      · intro x hx
        simp only [Array.toList_push, List.mem_append, List.mem_singleton] at hx
        rcases hx with hx | rfl
        · obtain ⟨k', v', a, b, d⟩ := h1 x hx
          have hne : k' ≠ k := by rintro rfl; exact hno x hx a
          exact ⟨k', v', a, b, by simp [mupd, hne, d]⟩
        · exact ⟨k, v, rfl, rfl, by simp [mupd]⟩
      · intro k' v' hM
        by_cases hkk : k' = k
        · subst hkk; exact ⟨{ key := fk k', val := fv v, born := c }, by simp, rfl⟩
        · simp only [mupd, if_neg hkk] at hM
          obtain ⟨x, hx, hxk⟩ := h2 k' v' hM
          exact ⟨x, by simp only [Array.toList_push, List.mem_append]; exact .inl hx, hxk⟩
      · rw [Array.toList_push, List.pairwise_append]
        exact ⟨h3, by simp, fun a ha b hb => by rw [List.mem_singleton.1 hb]; exact hno a ha⟩
  refine ⟨fun k v => .map (Classical.choose (key k v)) (Classical.choose (Classical.choose_spec (key k v))), fun u i k v => ?_, fun u i k v => ?_, fun u i k v a => ?_, fun u i k v a => ?_⟩
  · exact (Classical.choose_spec (Classical.choose_spec (key k v))).1 u
  · have hs := (Classical.choose_spec (Classical.choose_spec (key k v))).2
    have hlt : g < u.heap.size := Nat.lt_of_lt_of_le (blk_lt hb) i.below.size
    refine ⟨Classical.choose (key k v), Classical.choose (Classical.choose_spec (key k v)), ?_, hs⟩
    unfold putAt
    rw [Array.getElem?_setIfInBounds, if_pos rfl, if_pos hlt]
  · have hu : u.heap[g]? = some (.map es c) := blk_below hb i.below
    have hlt := blk_lt hu
    unfold World.cell? putAt
    by_cases hga : g = a.block
    · rw [← hga, hu]; simp [hlt]
    · simp [hga]
  · have hu : u.heap[g]? = some (.map es c) := blk_below hb i.below
    have hlt := blk_lt hu
    unfold World.frozen? putAt
    by_cases hga : g = a.block
    · rw [← hga, hu]; simp [hlt]
    · simp [hga]
theorem putAt_below {B : Nat} {a : World} {o : Obj} (h : Below B a w) (hg : B ≤ g) : Below B a (putAt w g o) :=
  ⟨h.os, h.tape, h.output, by simpa [putAt] using h.size, fun k hk => by
    rw [← h.block k hk]
    unfold putAt
    rw [Array.getElem?_setIfInBounds, if_neg (by omega)]⟩
theorem putAt_heap {o : Obj} {k : Nat} (h : k ≠ g) : (putAt w g o).heap[k]? = w.heap[k]? := by simp [putAt, Ne.symm h]
theorem putAt_size {o : Obj} : (putAt w g o).heap.size = w.heap.size := by simp [putAt]
theorem later_putAt {W u : World} {o : Obj} [h : Later W u] (hp : W.heap.size ≤ g) (e : putAt u g o = w') : ∀ b [Later b W], Later b w' := fun b k => by
  have hs := k.below.size
  exact ⟨by rw [← e]; exact putAt_below (k.trans h).below (by omega)⟩
theorem boxed_putAt {w0 u : World} {c : Array Value} {t : TypeId} {o : Obj} {b : Nat} (h : Boxed w0 b c t) [Later w0 u] (hne : b ≠ g) (e : putAt u g o = w') : Boxed w' b c t :=
  boxed (by rw [← e, putAt_heap hne]; exact (h u).1)
theorem Own.putAt {α : Type} {f : α → List Value} {s : Nat} {e : TypeId} {base : Nat} {v : Value} {l : List α} {o : Obj} (h : Own f s e base w v l) (hne : v.ownBlock ≠ some g) : Own f s e base (putAt w g o) v l :=
  h.kept (row := some g) ⟨rfl, rfl, rfl, by simp [putAt_size], fun k _ hk => putAt_heap (fun e => hk (by rw [e]))⟩ (.inr hne)
end
end Go.Proofs.YtjegncmkebbdfaaGreatDoor

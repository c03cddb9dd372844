/-
  Small texts of this seat, put into one. Conditions stand in each theorem.
-/
import Derived.Test.YtpkfenlfgdbkcaaGreatDoorGrpA
import Derived.MapKept
import Derived.Laws.PanicsMore
import Derived.Test.YtpkfenlfgdbkcaaGreatDoorP59Data
import Derived.Test.YtpkfenlfgdbkcaaGreatDoorF16Union
set_option linter.unusedSimpArgs false
set_option linter.unusedVariables false
namespace Go.Proofs.YtpkfenlfgdbkcaaGreatDoor
open Go.RowKit

/-- What the laws on maps ask of a key's type. -/
structure KeyL (P : Program) (kt : TypeId) {κ : Type} (fk : κ → Value) : Prop where
  inj : ∀ a b, fk a = fk b → a = b
  check : ∀ (w : World) (em : Bool) a, (Instr.checkKey em 10000 kt (fk a)).run P w = .ok () w
  find : ∀ (w : World) a (es : List MapEntry), (∀ e ∈ es, ∃ b, e.key = fk b) → ((Instr.findKey kt (fk a) es).run P w = .ok none w ∧ ∀ e ∈ es, e.key ≠ fk a) ∨
    ∃ j e, (Instr.findKey kt (fk a) es).run P w = .ok (some (j, e.val)) w ∧ es[j]? = some e ∧ e.key = fk a
  stays : ∀ (w : World) a, (Instr.keyThatStays (fk a) (fk a)).run P w = .ok (fk a) w
theorem keyL_int {P : Program} {kt : TypeId} {q : IntKind} (h : P.underlying kt = some (.int q)) : KeyL P kt (fun n : Int => Value.int q n) where
  inj a b e := by injection e
  check w em a := MapKept.run_checkKey h (show MapKept.IsKey (.int q) (.int q a) from rfl) em 9999
  find w a es hes := by
    have hks : ∀ y ∈ es, MapKept.IsKey (.int q) y.key := fun y hy => by
      obtain ⟨b, hb⟩ := hes y hy
      rw [hb]; rfl
    rcases MapKept.findNow_spec (show MapKept.IsKey (.int q) (.int q a) from rfl) es 0 hks with ⟨h1, h2⟩ | ⟨j, e0, h1, h2, h3⟩
    · exact .inl ⟨MapKept.run_findKey h h1, h2⟩
    · exact .inr ⟨j, e0, by simpa using MapKept.run_findKey h h1, h2, h3⟩
  stays w a := MapKept.run_keyThatStays (d := .int q) (show MapKept.IsKey (.int q) (.int q a) from rfl)
/-- A struct's key: what is asked of its own kind. -/
theorem findAsking_spec {P : Program} {kt : TypeId} {κ : Type} {fk : κ → Value} [DecidableEq κ] (heq : ∀ (w : World) a b, (Op.equal kt (fk a) (fk b)).run P w = .ok (decide (a = b)) w) (inj : ∀ a b, fk a = fk b → a = b) (w : World) (a : κ) : ∀ (es : List MapEntry) (i : Nat), (∀ e ∈ es, ∃ b, e.key = fk b) →
    ((Instr.findAsking kt (fk a) es i).run P w = .ok none w ∧ ∀ e ∈ es, e.key ≠ fk a) ∨ ∃ j e, (Instr.findAsking kt (fk a) es i).run P w = .ok (some (i + j, e.val)) w ∧ es[j]? = some e ∧ e.key = fk a
  | [], i, _ => .inl ⟨by simp [Instr.findAsking], by simp⟩
  | e :: es, i, h => by
    obtain ⟨b, hb⟩ := h e (.head _)
    by_cases hab : a = b
    · subst hab
      exact .inr ⟨0, e, by simp [Instr.findAsking, hb, heq], rfl, hb⟩
    · rcases findAsking_spec heq inj w a es (i + 1) (fun x hx => h x (.tail _ hx)) with ⟨h1, h2⟩ | ⟨j, e0, h1, h2, h3⟩
      · refine .inl ⟨by simp [Instr.findAsking, hb, heq, hab, h1], fun x hx => ?_⟩
        rcases List.mem_cons.1 hx with rfl | hx
        · rw [hb]; exact fun e => hab (inj _ _ e).symm
        · exact h2 x hx
      · exact .inr ⟨j + 1, e0, by simp [Instr.findAsking, hb, heq, hab, h1, Nat.add_assoc, Nat.add_comm 1 j], h2, h3⟩
theorem keyL_struct {P : Program} {kt : TypeId} {fs : Array Field} {κ : Type} {fk : κ → Value} [DecidableEq κ] (h : P.underlying kt = some (.struct fs)) (inj : ∀ a b, fk a = fk b → a = b) (agg : ∀ a, ∃ cs, fk a = .agg cs) (check : ∀ (w : World) (em : Bool) a, (Instr.checkKey em 10000 kt (fk a)).run P w = .ok () w)
    (heq : ∀ (w : World) a b, (Op.equal kt (fk a) (fk b)).run P w = .ok (decide (a = b)) w) (bits : ∀ a, Instr.sameBits 10000 (fk a) (fk a) = true) : KeyL P kt fk where
  inj := inj
  check := check
  find w a es hes := by
    cases es with
    | nil => exact .inl ⟨by simp [Instr.findKey, run_underlying h, Instr.findNow, Result.andThen], by simp⟩
    | cons e es =>
      have hn : Instr.findNow (.struct fs) (fk a) (e :: es) 0 = none := by
        obtain ⟨cs, hcs⟩ := agg a
        obtain ⟨b, hb⟩ := hes e (.head _)
        simp [Instr.findNow, Instr.sameNow]
      have hr : (Instr.findKey kt (fk a) (e :: es)).run P w = (Instr.findAsking kt (fk a) (e :: es) 0).run P w := by
        simp [Instr.findKey, run_underlying h, Result.andThen, hn]
      rw [hr]
      rcases findAsking_spec heq inj w a (e :: es) 0 hes with h1 | ⟨j, e0, h1, h2⟩
      · exact .inl h1
      · exact .inr ⟨j, e0, by simpa using h1, h2⟩
  stays w a := by simp [Instr.keyThatStays, bits]

/-! ### A map as a partial function -/
def MapFn {κ ν : Type} (fk : κ → Value) (fv : ν → Value) (w : World) (g : Nat) (M : κ → Option ν) : Prop :=
  ∃ es clock, w.heap[g]? = some (.map es clock) ∧ (∀ e ∈ es.toList, ∃ k v, e.key = fk k ∧ e.val = fv v ∧ M k = some v) ∧ (∀ k v, M k = some v → ∃ e ∈ es.toList, e.key = fk k) ∧ es.toList.Pairwise (fun a b => a.key ≠ b.key)
/-- The world with another object in block g. -/
def putAt (w : World) (g : Nat) (o : Obj) : World := { w with heap := w.heap.setIfInBounds g o }
def mupd {κ ν : Type} [DecidableEq κ] (M : κ → Option ν) (k : κ) (v : ν) : κ → Option ν := fun k' => if k' = k then some v else M k'
section
variable {P : Program} {kt et t : TypeId} {κ ν : Type} {fk : κ → Value} {fv : ν → Value} {w w' : World} {g : Nat} {M : κ → Option ν}
theorem MapFn.lt (h : MapFn fk fv w g M) : g < w.heap.size := by
  obtain ⟨es, c, hb, _⟩ := h
  exact blk_lt hb
theorem MapFn.below (h : MapFn fk fv w g M) (hb : Below w.heap.size w w') : MapFn fk fv w' g M := by
  obtain ⟨es, c, h1, h2⟩ := h
  exact ⟨es, c, blk_below h1 hb, h2⟩
theorem MapFn.later (h : MapFn fk fv w g M) : ∀ u [Later w u], MapFn fk fv u g M := fun _ i => h.below i.below
theorem MapFn.of_heap (h : MapFn fk fv w g M) (hb : w'.heap[g]? = w.heap[g]?) : MapFn fk fv w' g M := by
  obtain ⟨es, c, h1, h2⟩ := h
  exact ⟨es, c, hb.trans h1, h2⟩
theorem mapFn_made (w : World) : MapFn fk fv (w.alloc (.map #[] 0)) w.heap.size (fun _ => none) :=
  ⟨#[], 0, heap_alloc_new w _, by simp, by simp, by simp⟩
theorem run_look_ok (L : KeyL P kt fk) (ht : P.underlying t = some (.map kt et)) {z : Value} (hz : ∀ w, (zeroValue et).run P w = .ok z w) (h : MapFn fk fv w g M) (k : κ) :
    (Instr.lookup t (.map (some g)) (fk k) true).run P w = .ok (.tuple #[(M k).elim z fv, .bool (M k).isSome]) w := by
  obtain ⟨es, c, hb, h1, h2, h3⟩ := h
  have hks : ∀ e ∈ es.toList, ∃ b, e.key = fk b := fun e he => by obtain ⟨k, v, a, _⟩ := h1 e he; exact ⟨k, a⟩
  rcases L.find w k es.toList hks with ⟨e1, e2⟩ | ⟨j, e, e1, e2, e3⟩
  · have hM : M k = none := by
      cases hM : M k with
      | none => rfl
      | some v => obtain ⟨e, he, hk⟩ := h2 k v hM; exact absurd hk (e2 e he)
    simp [Instr.lookup, run_underlying ht, MapKept.run_getObj_map hb, L.check, e1, hz, Result.andThen, hM]
  · obtain ⟨k', v, a, b, c'⟩ := h1 e (List.mem_of_getElem? e2)
    have : k' = k := L.inj _ _ (a.symm.trans e3)
    subst this
    simp [Instr.lookup, run_underlying ht, MapKept.run_getObj_map hb, L.check, e1, Result.andThen, c', b]
theorem run_look (L : KeyL P kt fk) (ht : P.underlying t = some (.map kt et)) {z : Value} (hz : ∀ w, (zeroValue et).run P w = .ok z w) (h : MapFn fk fv w g M) (k : κ) :
    (Instr.lookup t (.map (some g)) (fk k) false).run P w = .ok ((M k).elim z fv) w := by
  obtain ⟨es, c, hb, h1, h2, h3⟩ := h
  have hks : ∀ e ∈ es.toList, ∃ b, e.key = fk b := fun e he => by obtain ⟨k, v, a, _⟩ := h1 e he; exact ⟨k, a⟩
  rcases L.find w k es.toList hks with ⟨e1, e2⟩ | ⟨j, e, e1, e2, e3⟩
  · have hM : M k = none := by
      cases hM : M k with
      | none => rfl
      | some v => obtain ⟨e, he, hk⟩ := h2 k v hM; exact absurd hk (e2 e he)
    simp [Instr.lookup, run_underlying ht, MapKept.run_getObj_map hb, L.check, e1, hz, Result.andThen, hM]
  · obtain ⟨k', v, a, b, c'⟩ := h1 e (List.mem_of_getElem? e2)
    have : k' = k := L.inj _ _ (a.symm.trans e3)
    subst this
    simp [Instr.lookup, run_underlying ht, MapKept.run_getObj_map hb, L.check, e1, Result.andThen, c', b]
/-- A store: the run, in each later world; what the map is then. -/
theorem run_store [DecidableEq κ] (L : KeyL P kt fk) (ht : P.underlying t = some (.map kt et)) (h : MapFn fk fv w g M) : ∃ U : κ → ν → Obj,
    (∀ (u : World) [Later w u] k v, (Instr.mapUpdate t (.map (some g)) (fk k) (fv v)).run P u = .ok () (putAt u g (U k v))) ∧
    (∀ (u : World) [Later w u] k v, MapFn fk fv (putAt u g (U k v)) g (mupd M k v)) ∧
    (∀ (u : World) [Later w u] k v a, (putAt u g (U k v)).cell? a = u.cell? a) ∧ (∀ (u : World) [Later w u] k v a, (putAt u g (U k v)).frozen? a = u.frozen? a) := by
  obtain ⟨es, c, hb, h1, h2, h3⟩ := h
  have hks : ∀ e ∈ es.toList, ∃ b, e.key = fk b := fun e he => by obtain ⟨k, v, a, _⟩ := h1 e he; exact ⟨k, a⟩
  have key : ∀ k v, ∃ es' c', (∀ (u : World) [Later w u], (Instr.mapUpdate t (.map (some g)) (fk k) (fv v)).run P u = .ok () (putAt u g (.map es' c'))) ∧
      (∀ e ∈ es'.toList, ∃ k' v', e.key = fk k' ∧ e.val = fv v' ∧ mupd M k v k' = some v') ∧ (∀ k' v', mupd M k v k' = some v' → ∃ e ∈ es'.toList, e.key = fk k') ∧ es'.toList.Pairwise (fun a b => a.key ≠ b.key) := by
    intro k v
    have hget : ∀ (u : World) [Later w u], u.heap[g]? = some (.map es c) := fun u i => blk_below hb i.below
    by_cases hk : ∃ e ∈ es.toList, e.key = fk k
    · -- there
      obtain ⟨j, e, he, hke, hfind⟩ : ∃ (j : Nat) (e : MapEntry), es.toList[j]? = some e ∧ e.key = fk k ∧ ∀ u : World, (Instr.findKey kt (fk k) es.toList).run P u = .ok (some (j, e.val)) u := by
        obtain ⟨e0, he0, hk0⟩ := hk
        obtain ⟨j0, hj0⟩ := List.getElem?_of_mem he0
        refine ⟨j0, e0, hj0, hk0, fun u => ?_⟩
        rcases L.find u k es.toList hks with ⟨_, e2⟩ | ⟨j, e, e1, e2, e3⟩
        · exact absurd hk0 (e2 e0 he0)
        · have hj : j = j0 := by
            rcases Nat.lt_trichotomy j j0 with hlt | heq | hgt
            · have := List.pairwise_iff_getElem.1 h3 j j0 (List.getElem?_eq_some_iff.1 e2).1 (List.getElem?_eq_some_iff.1 hj0).1 hlt
              rw [(List.getElem?_eq_some_iff.1 e2).2, (List.getElem?_eq_some_iff.1 hj0).2] at this
              exact absurd (e3.trans hk0.symm) this
            · exact heq
            · have := List.pairwise_iff_getElem.1 h3 j0 j (List.getElem?_eq_some_iff.1 hj0).1 (List.getElem?_eq_some_iff.1 e2).1 hgt
              rw [(List.getElem?_eq_some_iff.1 e2).2, (List.getElem?_eq_some_iff.1 hj0).2] at this
              exact absurd (hk0.trans e3.symm) this
          subst hj
          rw [hj0] at e2; injection e2 with e2; subst e2
          exact e1
      refine ⟨es.modify j fun e => { e with key := fk k, val := fv v }, c, fun u i => ?_, ?_, ?_, ?_⟩
      · have hge : es[j]? = some e := by simpa using he
        simp [Instr.mapUpdate, run_underlying ht, MapKept.run_getObj_map (hget u), L.check, hfind, Result.andThen, hge, hke, L.stays, MapKept.run_setObj_map _ (hget u), putAt]
      · intro x hx
        obtain ⟨i, hi⟩ := List.getElem?_of_mem hx
        rw [Array.getElem?_toList, Array.getElem?_modify] at hi
        by_cases hij : j = i
        · subst hij
          rw [if_pos rfl] at hi
          have hge : es[j]? = some e := by simpa using he
          rw [hge] at hi
          simp only [Option.map_some, Option.some.injEq] at hi
          subst hi
          exact ⟨k, v, rfl, rfl, by simp [mupd]⟩
        · rw [if_neg hij] at hi
          have hmem : x ∈ es.toList := List.mem_of_getElem? (i := i) (by simpa using hi)
          obtain ⟨k', v', a, b, d⟩ := h1 x hmem
          refine ⟨k', v', a, b, ?_⟩
          have hne : k' ≠ k := by
            rintro rfl
            have hi' : es.toList[i]? = some x := by simpa using hi
            rcases Nat.lt_or_gt_of_ne hij with hlt | hgt
            · have := List.pairwise_iff_getElem.1 h3 j i (List.getElem?_eq_some_iff.1 he).1 (List.getElem?_eq_some_iff.1 hi').1 hlt
              rw [(List.getElem?_eq_some_iff.1 he).2, (List.getElem?_eq_some_iff.1 hi').2] at this
              exact this (hke.trans a.symm)
            · have := List.pairwise_iff_getElem.1 h3 i j (List.getElem?_eq_some_iff.1 hi').1 (List.getElem?_eq_some_iff.1 he).1 hgt
              rw [(List.getElem?_eq_some_iff.1 he).2, (List.getElem?_eq_some_iff.1 hi').2] at this
              exact this (a.trans hke.symm)
          simp [mupd, hne, d]
      · intro k' v' hM
        have hsz : j < es.size := by have := (List.getElem?_eq_some_iff.1 he).1; simpa using this
        by_cases hkk : k' = k
        · subst hkk
          refine ⟨{ e with key := fk k', val := fv v }, List.mem_of_getElem? (i := j) ?_, rfl⟩
          have hge : es[j]? = some e := by simpa using he
          rw [Array.getElem?_toList, Array.getElem?_modify, if_pos rfl, hge]; rfl
        · simp only [mupd, if_neg hkk] at hM
          obtain ⟨x, hx, hxk⟩ := h2 k' v' hM
          obtain ⟨i, hi⟩ := List.getElem?_of_mem hx
          refine ⟨x, List.mem_of_getElem? (i := i) ?_, hxk⟩
          have hij : j ≠ i := by
            rintro rfl
            rw [he] at hi; injection hi with hi; subst hi
            exact hkk (L.inj _ _ (hxk.symm.trans hke))
          rw [Array.getElem?_toList, Array.getElem?_modify, if_neg hij]; simpa using hi
      · have hmap : (es.modify j fun e => { e with key := fk k, val := fv v }).toList.map (·.key) = es.toList.map (·.key) := by
          apply List.ext_getElem?
          intro i
          rw [List.getElem?_map, List.getElem?_map, Array.getElem?_toList, Array.getElem?_toList, Array.getElem?_modify]
          by_cases hij : j = i
          · subst hij
            have hge : es[j]? = some e := by simpa using he
            rw [if_pos rfl, hge]; simp [hke]
          · rw [if_neg hij]
        have hp : (es.toList.map (·.key)).Pairwise (· ≠ ·) := List.pairwise_map.2 h3
        rw [← hmap] at hp
        exact List.pairwise_map.1 hp
    · -- new
      have hno : ∀ e ∈ es.toList, e.key ≠ fk k := fun e he h => hk ⟨e, he, h⟩
      refine ⟨es.push { key := fk k, val := fv v, born := c }, c + 1, fun u i => ?_, ?_, ?_, ?_⟩
      · have e1 : (Instr.findKey kt (fk k) es.toList).run P u = .ok none u := by
          rcases L.find u k es.toList hks with ⟨e1, _⟩ | ⟨j, e, _, e2, e3⟩
          · exact e1
          · exact absurd e3 (hno e (List.mem_of_getElem? e2))
        simp [Instr.mapUpdate, run_underlying ht, MapKept.run_getObj_map (hget u), L.check, e1, Result.andThen, MapKept.run_setObj_map _ (hget u), putAt]
      · intro x hx
        simp only [Array.toList_push, List.mem_append, List.mem_singleton] at hx
        rcases hx with hx | rfl
        · obtain ⟨k', v', a, b, d⟩ := h1 x hx
          have hne : k' ≠ k := by rintro rfl; exact hno x hx a
          exact ⟨k', v', a, b, by simp [mupd, hne, d]⟩
        · exact ⟨k, v, rfl, rfl, by simp [mupd]⟩
      · intro k' v' hM
        by_cases hkk : k' = k
        · subst hkk; exact ⟨{ key := fk k', val := fv v, born := c }, by simp, rfl⟩
        · simp only [mupd, if_neg hkk] at hM
          obtain ⟨x, hx, hxk⟩ := h2 k' v' hM
          exact ⟨x, by simp only [Array.toList_push, List.mem_append]; exact .inl hx, hxk⟩
      · rw [Array.toList_push, List.pairwise_append]
        exact ⟨h3, by simp, fun a ha b hb => by rw [List.mem_singleton.1 hb]; exact hno a ha⟩
  refine ⟨fun k v => .map (Classical.choose (key k v)) (Classical.choose (Classical.choose_spec (key k v))), fun u i k v => ?_, fun u i k v => ?_, fun u i k v a => ?_, fun u i k v a => ?_⟩
  · exact (Classical.choose_spec (Classical.choose_spec (key k v))).1 u
  · have hs := (Classical.choose_spec (Classical.choose_spec (key k v))).2
    have hlt : g < u.heap.size := Nat.lt_of_lt_of_le (blk_lt hb) i.below.size
    refine ⟨Classical.choose (key k v), Classical.choose (Classical.choose_spec (key k v)), ?_, hs⟩
    unfold putAt
    rw [Array.getElem?_setIfInBounds, if_pos rfl, if_pos hlt]
  · have hu : u.heap[g]? = some (.map es c) := blk_below hb i.below
    have hlt := blk_lt hu
    unfold World.cell? putAt
    by_cases hga : g = a.block
    · rw [← hga, hu]; simp [hlt]
    · simp [hga]
  · have hu : u.heap[g]? = some (.map es c) := blk_below hb i.below
    have hlt := blk_lt hu
    unfold World.frozen? putAt
    by_cases hga : g = a.block
    · rw [← hga, hu]; simp [hlt]
    · simp [hga]
theorem putAt_below {B : Nat} {a : World} {o : Obj} (h : Below B a w) (hg : B ≤ g) : Below B a (putAt w g o) :=
  ⟨h.os, h.tape, h.output, by simpa [putAt] using h.size, fun k hk => by
    rw [← h.block k hk]
    unfold putAt
    rw [Array.getElem?_setIfInBounds, if_neg (by omega)]⟩
theorem putAt_heap {o : Obj} {k : Nat} (h : k ≠ g) : (putAt w g o).heap[k]? = w.heap[k]? := by simp [putAt, Ne.symm h]
theorem putAt_size {o : Obj} : (putAt w g o).heap.size = w.heap.size := by simp [putAt]
theorem later_putAt {W u : World} {o : Obj} [h : Later W u] (hp : W.heap.size ≤ g) (e : putAt u g o = w') : ∀ b [Later b W], Later b w' := fun b k => by
  have hs := k.below.size
  exact ⟨by rw [← e]; exact putAt_below (k.trans h).below (by omega)⟩
theorem boxed_putAt {w0 u : World} {c : Array Value} {t : TypeId} {o : Obj} {b : Nat} (h : Boxed w0 b c t) [Later w0 u] (hne : b ≠ g) (e : putAt u g o = w') : Boxed w' b c t :=
  boxed (by rw [← e, putAt_heap hne]; exact (h u).1)
theorem Own.putAt {α : Type} {f : α → List Value} {s : Nat} {e : TypeId} {base : Nat} {v : Value} {l : List α} {o : Obj} (h : Own f s e base w v l) (hne : v.ownBlock ≠ some g) : Own f s e base (putAt w g o) v l :=
  h.kept (row := some g) ⟨rfl, rfl, rfl, by simp [putAt_size], fun k _ hk => putAt_heap (fun e => hk (by rw [e]))⟩ (.inr hne)
end
end Go.Proofs.YtpkfenlfgdbkcaaGreatDoor

namespace Go.Proofs.YtpkfenlfgdbkcaaGreatDoor
open Go.RowKit
def viewOf (V : List ViewE) (m : Int) : Option ViewE := V.find? fun v => v.machine == m
def viewG (V : List ViewE) (m : Int) : ViewE := (viewOf V m).getD zeroView
/-- What a view's machine has been sent, as the receiver says. -/
def gotN (V : List ViewE) (v : ViewE) (dst : Int) : Int :=
  if 0 ≤ IntKind.i64.wrap (v.machine - 1) ∧ IntKind.i64.wrap (v.machine - 1) < ((viewG V dst).received.length : Int) then (viewG V dst).received.getD (IntKind.i64.wrap (v.machine - 1)).toNat 0 else 0
def flyB (V : List ViewE) (v : ViewE) (x : FlightE) : Bool := (viewOf V x.dst).isSome && decide (gotN V v x.dst < x.seq)
def isScion (client number : Int) (e : ScionE) : Bool := e.client == client && e.number == number
def scionOf (V : List ViewE) (m client number : Int) : Option ScionE := (viewG V m).scions.find? (isScion client number)
def ScionE.id (e : ScionE) : IDE := ⟨e.iDMachine, e.iDSerial⟩
def RefE.id (e : RefE) : IDE := ⟨e.iDMachine, e.iDSerial⟩
def zeroI : IDE := ⟨0, 0⟩
def isMove (V : List ViewE) (v : ViewE) (dst number : Int) (x : FlightE) : Bool := x.dst == dst && (x.msg.kind == 1 && (x.msg.parcel.number == number && flyB V v x))
def numId (V : List ViewE) (frm dst number : Int) : IDE :=
  match scionOf V dst frm number with
  | some e => e.id
  | none => match (viewG V frm).flights.find? (isMove V (viewG V frm) dst number) with
    | some x => x.msg.parcel.id
    | none => zeroI
def refId (V : List ViewE) (frm dst : Int) (r : RefE) : IDE := if r.kind = 3 then r.id else if r.kind = 2 then numId V frm dst r.number else zeroI
def refVal (V : List ViewE) (frm dst : Int) (r : RefE) : ValE := if r.kind = 1 then ⟨1, r.int, 0, 0⟩ else if refId V frm dst r = zeroI then ⟨0, 0, 0, 0⟩ else ⟨2, 0, (refId V frm dst r).machine, (refId V frm dst r).serial⟩
/-- The flights on their way, each with its sender's view. -/
def flightsOf (V : List ViewE) : List (ViewE × FlightE) := V.flatMap fun v => (v.flights.filter (flyB V v)).map fun x => (v, x)
def movedN (V : List ViewE) (p : ViewE × FlightE) : NodeC := ⟨p.2.msg.parcel.iM, p.2.msg.parcel.iS, p.2.msg.parcel.kind, p.2.msg.parcel.clas, p.2.msg.parcel.fields.map (refVal V p.1.machine p.2.dst)⟩
def movesOf (V : List ViewE) (l : List (ViewE × FlightE)) : List (List NodeC) := l.flatMap fun p => if p.2.msg.kind = 1 then [[movedN V p]] else []
def graphsV (V : List ViewE) : List (List NodeC) := V.map (fun v => conL v.objects) ++ movesOf V (flightsOf V)
def graphV (V : List ViewE) : List NodeC × Nat := unionC (graphsV V)
def rootsF (V : List ViewE) (p : ViewE × FlightE) : List IDE :=
  if p.2.msg.kind = 0 then numId V p.1.machine p.2.dst p.2.msg.number :: p.2.msg.letter.args.map (refId V p.1.machine p.2.dst)
  else if p.2.msg.kind = 17 then [refId V p.1.machine p.2.dst p.2.msg.ref]
  else if p.2.msg.kind = 1 then p.2.msg.parcel.mail.flatMap fun l => p.2.msg.parcel.id :: l.args.map (refId V p.1.machine p.2.dst)
  else []
def rootsM (m : MailE) : List IDE := m.dst :: (m.args.filter fun a => a.kind == 2).map ValE.ref
def rootsO (v : ViewE) : List IDE := v.names.map NamedE.ref ++ v.mail.flatMap rootsM
def rootsRaw (V : List ViewE) : List IDE := V.flatMap rootsO ++ (flightsOf V).flatMap (rootsF V)
def rootsV (V : List ViewE) : List IDE := (setI (rootsRaw V)).filter fun x => decide (x ≠ zeroI)
def localB (id : IDE) (v : ViewE) : Bool := match firstN (conL v.objects) id with | some n => n.kind != 3 | none => false
def movesId (id : IDE) (p : ViewE × FlightE) : Bool := p.2.msg.kind == 1 && decide (p.2.msg.parcel.id = id)
def homeV (V : List ViewE) (id : IDE) : Int × Bool :=
  match V.find? (localB id) with
  | some v => (v.machine, true)
  | none => match (flightsOf V).find? (movesId id) with
    | some p => (p.2.dst, true)
    | none => (0, false)
/-! ### Small views -/
structure FewF (x : FlightE) : Prop where
  l : x.msg.letter.args.length ≤ 6
  p : x.msg.parcel.fields.length ≤ 6
  m : x.msg.parcel.mail.length ≤ 4
  a : ∀ y ∈ x.msg.parcel.mail, y.args.length ≤ 6
structure FewW (v : ViewE) : Prop where
  o : v.objects.length ≤ 12
  d : ∀ n ∈ v.objects, n.fields.length ≤ 6
  s : v.scions.length ≤ 12
  n : v.names.length ≤ 6
  m : v.mail.length ≤ 6
  a : ∀ y ∈ v.mail, y.args.length ≤ 6
  f : v.flights.length ≤ 6
  g : ∀ x ∈ v.flights, FewF x
  r : v.received.length ≤ 10
structure FewV (V : List ViewE) : Prop where
  l : V.length ≤ 5
  v : ∀ v ∈ V, FewW v
theorem zeroView_few : FewW zeroView := ⟨by simp [zeroView], by simp [zeroView], by simp [zeroView], by simp [zeroView], by simp [zeroView], by simp [zeroView], by simp [zeroView], by simp [zeroView], by simp [zeroView]⟩
theorem viewOf_mem {V : List ViewE} {m : Int} {v : ViewE} (h : viewOf V m = some v) : v ∈ V ∧ v.machine = m := ⟨List.mem_of_find?_eq_some h, by simpa using List.find?_some h⟩
theorem viewG_few {V : List ViewE} (h : FewV V) (m : Int) : FewW (viewG V m) := by
  unfold viewG
  cases hv : viewOf V m with
  | none => exact zeroView_few
  | some v => exact h.v v (viewOf_mem hv).1
theorem viewG_ok {V : List ViewE} {w : World} (h : ∀ v ∈ V, ViewOk w v) (m : Int) : ViewOk w (viewG V m) := by
  unfold viewG
  cases hv : viewOf V m with
  | none => exact zeroView_ok w
  | some v => exact h v (viewOf_mem hv).1
/-- Where the first view of a machine stands. -/
def idxM (V : List ViewE) (m : Int) : Option Int := (V.findIdx? fun v => v.machine == m).map Int.ofNat
theorem idxM_nil : idxM [] = fun _ => none := by funext m; rfl
theorem idxM_view {V : List ViewE} {m : Int} : (idxM V m = none ∧ viewOf V m = none) ∨ ∃ (k : Nat) (v : ViewE), idxM V m = some (k : Int) ∧ V[k]? = some v ∧ viewOf V m = some v := by
  unfold idxM viewOf
  cases h : V.findIdx? (fun v => v.machine == m) with
  | none =>
    refine .inl ⟨rfl, ?_⟩
    rw [List.findIdx?_eq_none_iff] at h
    rw [List.find?_eq_none]
    exact fun x hx => by rw [h x hx]; decide
  | some k =>
    obtain ⟨hk, hp, hno⟩ := List.findIdx?_eq_some_iff_getElem.1 h
    refine .inr ⟨k, V[k], rfl, List.getElem?_eq_getElem hk, ?_⟩
    exact find_hit (List.getElem?_eq_getElem hk) hp fun j y hj hy => by
      have := hno j hj
      rw [(List.getElem?_eq_some_iff.1 hy).2] at this
      simpa using this
theorem idxM_take {V : List ViewE} {k : Nat} {v : ViewE} (h : V[k]? = some v) : idxM (V.take (k + 1)) = match idxM (V.take k) v.machine with | some _ => idxM (V.take k) | none => mupd (idxM (V.take k)) v.machine (k : Int) := by
  have hkl := (List.getElem?_eq_some_iff.1 h).1
  have ht : (V.take k).length = k := by rw [List.length_take]; omega
  have hs : ∀ m, idxM (V.take (k + 1)) m = (idxM (V.take k) m).or (if v.machine = m then some (k : Int) else none) := fun m => by
    unfold idxM
    rw [take_snoc_get h, List.findIdx?_append, ht]
    cases hf : (V.take k).findIdx? (fun v => v.machine == m) with
    | some j => rfl
    | none =>
      by_cases hm : v.machine = m
      · rw [if_pos hm]; simp [List.findIdx?_cons, hm]
      · rw [if_neg hm]; simp [List.findIdx?_cons, hm]
  cases hv : idxM (V.take k) v.machine with
  | some j =>
    show _ = idxM (V.take k)
    funext m
    rw [hs]
    by_cases hm : v.machine = m
    · subst hm; rw [hv]; rfl
    · rw [if_neg hm]; cases idxM (V.take k) m <;> rfl
  | none =>
    show _ = mupd (idxM (V.take k)) v.machine (k : Int)
    funext m
    rw [hs]
    unfold mupd
    by_cases hm : m = v.machine
    · subst hm; rw [if_pos rfl, hv, if_pos rfl]; rfl
    · rw [if_neg (fun e => hm e.symm), if_neg hm]; cases idxM (V.take k) m <;> rfl
end Go.Proofs.YtpkfenlfgdbkcaaGreatDoor

namespace Go.Proofs.YtpkfenlfgdbkcaaGreatDoor
open Go.RowKit
attribute [local go_sem] Oper.semAt_some
attribute [local simp] heap_drew
abbrev fvI (n : Int) : Value := .int .i64 n
theorem zeroInt (w : World) : (zeroValue 3).run Tryz.prog w = .ok (.int .i64 0) w := by kernel_rfl
abbrev FleetM (w : World) (g : Nat) (V : List ViewE) : Prop := MapFn fvI fvI w g (idxM V)
attribute [local go_sem ↓] load_view_pre load_flight_pre load_msg_pre store_view_pre store_flight_pre store_msg_pre
attribute [local go_sem] load_view load_flight load_msg store_view store_flight store_msg view_isRow zero_isRow rowFree_new setRow_new
/-- An element of the views: where it lies, its struct read whole, its cells. -/
theorem ViewsAt.get {w : World} {A : Option Addr} {V : List ViewE} (h : ViewsAt w A V) {k : Nat} (hk : k < V.length) : ∃ b o v, A = some ⟨b, o, none⟩ ∧ V[k]? = some v ∧ v ∈ V ∧ (∀ u [Later w u], rowOf u b (o + k * 13) 13 = some v.arr) ∧ (∀ u [Later w u], u.cell? ⟨b, o + k * 13, none⟩ = some (.int .i64 v.machine)) ∧ (∀ u [Later w u], u.cell? ⟨b, o + k * 13 + 2, none⟩ = some (.slice v.oA v.objects.length v.oc)) ∧ (∀ u [Later w u], u.cell? ⟨b, o + k * 13 + 9, none⟩ = some (.slice v.fA v.flights.length v.fc)) ∧ (∀ u [Later w u], ViewOk u v) := by
  obtain ⟨b, o, v, hA, hb, hv, hc⟩ := h.s.at_ hk
  have hm := List.mem_of_getElem? hv
  refine ⟨b, o, v, hA, hv, hm, fun u i => ?_, fun u i => ?_, fun u i => ?_, fun u i => ?_, fun u i => (h.v v hm).below i.below⟩
  · exact rowOf_eq v.arr_size fun j x hj => cell_below (hc j x (by simpa [ViewE.arr] using hj)) i.below
  · exact cell_below (hc 0 _ rfl) i.below
  · exact cell_below (hc 2 _ rfl) i.below
  · exact cell_below (hc 9 _ rfl) i.below
/-- The cells of a view in a box. -/
theorem ViewE.box {w0 : World} {g : Nat} {v : ViewE} (h : Boxed w0 g v.arr 64) : (∀ u [Later w0 u], u.cell? ⟨g, 0, none⟩ = some (.int .i64 v.machine)) ∧ (∀ u [Later w0 u], u.cell? ⟨g, 2, none⟩ = some (.slice v.oA v.objects.length v.oc)) ∧ (∀ u [Later w0 u], u.cell? ⟨g, 4, none⟩ = some (.slice v.sA v.scions.length v.sc)) ∧ (∀ u [Later w0 u], u.cell? ⟨g, 5, none⟩ = some (.slice v.nA v.names.length v.nc)) ∧ (∀ u [Later w0 u], u.cell? ⟨g, 6, none⟩ = some (.slice v.mA v.mail.length v.mc)) ∧ (∀ u [Later w0 u], u.cell? ⟨g, 9, none⟩ = some (.slice v.fA v.flights.length v.fc)) ∧ (∀ u [Later w0 u], u.cell? ⟨g, 10, none⟩ = some (.slice v.rA v.received.length v.rc)) ∧ (∀ u [Later w0 u], rowOf u g 0 13 = some v.arr) :=
  ⟨fun u i => ((h u).2 0).1, fun u i => ((h u).2 2).1, fun u i => ((h u).2 4).1, fun u i => ((h u).2 5).1, fun u i => ((h u).2 6).1, fun u i => ((h u).2 9).1, fun u i => ((h u).2 10).1, fun u i => rowOf_eq v.arr_size fun j x hj => by rw [Nat.zero_add, ((h u).2 j).1]; exact hj⟩
theorem zeroView_v : zeroView.v = .agg #[.int .i64 0, .int .i64 0, .slice none 0 0, .slice none 0 0, .slice none 0 0, .slice none 0 0, .slice none 0 0, .slice none 0 0, .slice none 0 0, .slice none 0 0, .slice none 0 0, .int .i64 0, .int .i64 0] := rfl
def ViewPost (V : List ViewE) (m : Int) (w : World) (r : Ending) (w' : World) : Prop := r = .returned (.tuple #[(viewG V m).v, .bool (viewOf V m).isSome]) ∧ Below w.heap.size w w'
set_option maxRecDepth 100000 in
set_option maxHeartbeats 2000000 in
theorem view_any (A : Option Addr) (c : Nat) (V : List ViewE) (g : Nat) (m : Int) (w : World) (H : ViewsAt w A V) (hM : FleetM w g V) (hf : FewV V) :
    Calls Tryz.prog 72 #[.agg #[.slice A V.length c, .map (some g)], .int .i64 m] w (ViewPost V m w) := by
  have hl := hf.l
  rcases @idxM_view V m with ⟨h1, h2⟩ | ⟨k, v, h1, hv, h2⟩
  · have HK : ∀ u [Later w u], (Instr.lookup 91 (.map (some g)) (.int .i64 m) true).run Tryz.prog u = .ok (.tuple #[.int .i64 0, .bool false]) u := fun u i => by
      have := run_look_ok (keyL_int Tryz.underlying3) Tryz.underlying91 zeroInt (hM.later u) m
      rw [h1] at this
      exact this
    have hpost : ∀ u, Below w.heap.size w u → ViewPost V m w (.returned (.tuple #[zeroView.v, .bool false])) u := fun u hb => ⟨by unfold viewG; rw [h2]; rfl, hb⟩
    clear hM h1 h2
    go_enter Tryz.func72, Tryz.ntmps72
    go_upto_region 1 with fail
    refine wp_name ?_
    intro w0 hw0
    obtain ⟨B0, B1, l0⟩ := box2 hw0
    have l00 : Later w0 w0 := Later.refl
    have hz0 : w0.heap.size = w.heap.size + 1 + 1 := by rw [← hw0]; simp
    clear hw0
    have HF := rowFree_box B1 (n := 13) rfl
    go_wp2_with fail
    refine bodyPost_ret (v := .tuple #[zeroView.v, .bool false]) (results_cell_tmp rfl rfl rfl (loadVar_row viewRow viewN (ViewE.arr_size _) (setRow_heap _ _ _ _ _ _ (B1 _).1))) rfl (hpost _ (below_setRow below_of (by omega)))
  · have HK : ∀ u [Later w u], (Instr.lookup 91 (.map (some g)) (.int .i64 m) true).run Tryz.prog u = .ok (.tuple #[.int .i64 k, .bool true]) u := fun u i => by
      have := run_look_ok (keyL_int Tryz.underlying3) Tryz.underlying91 zeroInt (hM.later u) m
      rw [h1] at this
      exact this
    have hpost : ∀ u, Below w.heap.size w u → ViewPost V m w (.returned (.tuple #[v.v, .bool true])) u := fun u hb => ⟨by unfold viewG; rw [h2]; rfl, hb⟩
    have hkl : k < V.length := (List.getElem?_eq_some_iff.1 hv).1
    obtain ⟨b, o, v', rfl, hv', hmem, LV, -, -, -, -⟩ := H.get hkl
    rw [hv] at hv'
    injection hv' with hv'
    subst hv'
    have hki : (k : Int) < (V.length : Int) := by omega
    clear hM h1 h2 hv
    go_enter Tryz.func72, Tryz.ntmps72
    go_upto_region 1 with fail
    refine wp_name ?_
    intro w0 hw0
    obtain ⟨B0, B1, l0⟩ := box2 hw0
    have l00 : Later w0 w0 := Later.refl
    have hz0 : w0.heap.size = w.heap.size + 1 + 1 := by rw [← hw0]; simp
    clear hw0
    have HF := rowFree_box B1 (n := 13) rfl
    go_wp2_with fail
    refine bodyPost_ret (v := .tuple #[v.v, .bool true]) (results_cell_tmp rfl rfl rfl (loadVar_row viewRow viewN (ViewE.arr_size _) (setRow_heap _ _ _ _ _ _ (B1 _).1))) rfl (hpost _ (below_setRow below_of (by omega)))
theorem fleetRow : Tryz.prog.underlying 93 = some (.struct (Tryz.prog.fieldsOf 93)) := by kernel_rfl
theorem fleetN : (Tryz.prog.info? 93).map (·.size) = some 2 := by kernel_rfl
def OfPost (A : Option Addr) (c : Nat) (V : List ViewE) (w : World) (r : Ending) (w' : World) : Prop := ∃ g, r = .returned (.agg #[.slice A V.length c, .map (some g)]) ∧ FleetM w' g V ∧ Below w.heap.size w w'
set_option maxRecDepth 100000 in
set_option maxHeartbeats 4000000 in
theorem of_any (A : Option Addr) (c : Nat) (V : List ViewE) (w : World) (H : ViewsAt w A V) (hf : FewV V) :
    Calls Tryz.prog 34 #[.slice A V.length c] w (OfPost A c V w) := by
  have hl := hf.l
  have HV := H.later
  have hmm := @run_makeMap Tryz.prog
  go_enter Tryz.func34, Tryz.ntmps34
  go_upto_region 2 with fail
  refine wp_name ?_
  intro w1 hw1
  have b0 : w1.heap[w.heap.size]? = some (.cells #[.slice none 0 0, .map none] 93 (0, 0)) := (by rw [← hw1]; simp only [heap_alloc_if, World.size_alloc]; repeat (first | rw [if_pos trivial] | rw [if_neg (by omega)] | rw [if_pos (by omega)]); try rfl)
  have b1 : w1.heap[w.heap.size + 1]? = some (.map #[] 0) := (by rw [← hw1]; simp only [heap_alloc_if, World.size_alloc]; repeat (first | rw [if_pos trivial] | rw [if_neg (by omega)] | rw [if_pos (by omega)]); try rfl)
  have b2 : w1.heap[w.heap.size + 1 + 1]? = some (.cells #[.slice A V.length c, .map (some (w.heap.size + 1))] 93 (0, 0)) := (by rw [← hw1]; simp only [heap_alloc_if, World.size_alloc]; repeat (first | rw [if_pos trivial] | rw [if_neg (by omega)] | rw [if_pos (by omega)]); try rfl)
  have hb1 : Below w.heap.size w w1 := by rw [← hw1]; exact (by repeat (first | with_reducible exact Below.refl _ _ | (with_reducible refine Below.drew ?_) | (with_reducible refine below_drewN ?_ _) | (with_reducible refine Below.alloc ?_ ?_ _; rotate_left; (first | omega | (simp <;> omega))) | (with_reducible refine Below.setCell ?_ ?_ _; rotate_left; (first | omega | (simp <;> omega)))))
  have hM1 : MapFn fvI fvI w1 (w.heap.size + 1) (idxM (V.take 0)) := ⟨#[], 0, b1, by simp, by rw [List.take_zero, idxM_nil]; simp, by simp⟩
  clear hw1 b1 hmm
  have l1 := later hb1
  go_wp2_with fail
  go_loopw [13] (fun i wr => ∃ k : Nat, k ≤ V.length ∧ i = .int .i64 k ∧ MapFn fvI fvI wr (w.heap.size + 1) (idxM (V.take k)) ∧ wr.heap[w.heap.size]? = some (.cells #[.slice none 0 0, .map none] 93 (0, 0)) ∧ wr.heap[w.heap.size + 1 + 1]? = some (.cells #[.slice A V.length c, .map (some (w.heap.size + 1))] 93 (0, 0)) ∧ Below w.heap.size w wr) (fun i _ => V.length - (intOf i).toNat)
  case atStart => exact ⟨0, by omega, rfl, hM1, b0, b2, hb1⟩
  case round =>
    clear b0 b2 hb1 hM1 l1
    obtain ⟨k, hk, rfl, hM, b0, b2, hbr⟩ := hrel
    have lr := later hbr
    have lrr : Later wr wr := Later.refl
    have hz := blk_lt b2
    have B0 := boxed b0
    have B2 := boxed b2
    by_cases hlt : k < V.length
    · obtain ⟨b, o, v, rfl, hv, hmem, LV, C0, -, -, -⟩ := (HV wr).get hlt
      have hki : (k : Int) < (V.length : Int) := by omega
      have HT := hide (idxM_take hv)
      have HKok := fun (u : World) (i : Later wr u) => run_look_ok (keyL_int Tryz.underlying3) Tryz.underlying91 zeroInt (hM.later u) v.machine
      clear hv
      go_upto_region 5 with fail
      refine wp_name ?_
      intro w2 hw2
      obtain ⟨BX, l2⟩ := box1 hw2
      have l22 : Later w2 w2 := Later.refl
      have hb2 : Below wr.heap.size wr w2 := by rw [← hw2]; exact (by repeat (first | with_reducible exact Below.refl _ _ | (with_reducible refine Below.drew ?_) | (with_reducible refine below_drewN ?_ _) | (with_reducible refine Below.alloc ?_ ?_ _; rotate_left; (first | omega | (simp <;> omega))) | (with_reducible refine Below.setCell ?_ ?_ _; rotate_left; (first | omega | (simp <;> omega)))))
      clear hw2
      obtain ⟨X0, -⟩ := ViewE.box BX
      clear BX
      have hM2 := hM.below hb2
      cases hx : idxM (V.take k) v.machine with
      | some j =>
        simp only [hx] at HT
        have HK : ∀ u [Later w2 u], (Instr.lookup 91 (.map (some (w.heap.size + 1))) (.int .i64 v.machine) true).run Tryz.prog u = .ok (.tuple #[.int .i64 j, .bool true]) u := fun u i => by
          have := HKok u ((l2 wr).trans i)
          rw [hx] at this
          exact this
        clear HKok hx
        go_wp2_with fail
        go_roundw
        case rel => exact ⟨k + 1, by omega, by go_num, by rw [HT.out]; exact hM2, blk_below b0 hb2, blk_below b2 hb2, hbr.trans (hb2.mono hbr.size)⟩
        case measure => simp [intOf]; omega
      | none =>
        simp only [hx] at HT
        have HK : ∀ u [Later w2 u], (Instr.lookup 91 (.map (some (w.heap.size + 1))) (.int .i64 v.machine) true).run Tryz.prog u = .ok (.tuple #[.int .i64 0, .bool false]) u := fun u i => by
          have := HKok u ((l2 wr).trans i)
          rw [hx] at this
          exact this
        clear HKok hx
        obtain ⟨U, hU1, hU2, -, -⟩ := run_store (P := Tryz.prog) (keyL_int Tryz.underlying3) Tryz.underlying91 hM2
        have hF := hide (hU2 w2 v.machine (k : Int))
        have hU1' := fun (u : World) [Later w2 u] => hU1 u v.machine (k : Int)
        clear hU1 hU2
        go_wp2_with fail
        go_roundw
        case rel => exact ⟨k + 1, by omega, by go_num, by rw [HT.out]; exact hF.out, (putAt_heap (by omega)).trans (blk_below b0 hb2), (putAt_heap (by omega)).trans (blk_below b2 hb2), putAt_below (hbr.trans (hb2.mono hbr.size)) (by omega)⟩
        case measure => simp [intOf]; omega
    · have hk' : k = V.length := by omega
      subst hk'
      rw [List.take_length] at hM
      go_wp2_with fail
      have q := blk_set (blk_set b0 0 (.slice A V.length c)) 1 (.map (some (w.heap.size + 1)))
      have h0 : w.heap.size + 1 ≠ w.heap.size := by omega
      refine bodyPost_ret (results_cell rfl rfl (loadVar_row fleetRow fleetN rfl q)) rfl ⟨w.heap.size + 1, rfl, hM.of_heap ((blk_far (p := ⟨w.heap.size, 1, none⟩) h0 _).trans (blk_far (p := ⟨w.heap.size, 0, none⟩) h0 _)), (hbr.setCell (p := ⟨w.heap.size, 0, none⟩) (Nat.le_refl _) _).setCell (p := ⟨w.heap.size, 1, none⟩) (Nat.le_refl _) _⟩
abbrev fleetV (A : Option Addr) (c : Nat) (V : List ViewE) (g : Nat) : Value := .agg #[.slice A V.length c, .map (some g)]
/-- The cells of a flight in a box. -/
theorem FlightE.box {w0 : World} {g : Nat} {x : FlightE} (h : Boxed w0 g x.arr 87) : (∀ u [Later w0 u], u.cell? ⟨g, 0, none⟩ = some (.int .i64 x.dst)) ∧ (∀ u [Later w0 u], u.cell? ⟨g, 1, none⟩ = some (.int .i64 x.seq)) ∧ (∀ u [Later w0 u], u.cell? ⟨g, 2, none⟩ = some (.int .i64 x.msg.kind)) ∧ (∀ u [Later w0 u], u.cell? ⟨g, 18, none⟩ = some (.int .u64 x.msg.parcel.number)) ∧ (∀ u [Later w0 u], u.cell? ⟨g, 19, none⟩ = some (.int .i64 x.msg.parcel.iM)) ∧ (∀ u [Later w0 u], u.cell? ⟨g, 20, none⟩ = some (.int .i64 x.msg.parcel.iS)) :=
  ⟨fun u i => ((h u).2 0).1, fun u i => ((h u).2 1).1, fun u i => ((h u).2 2).1, fun u i => ((h u).2 18).1, fun u i => ((h u).2 19).1, fun u i => ((h u).2 20).1⟩
theorem FlightE.row {w0 W : World} {g : Nat} {x : FlightE} (h : Boxed w0 g x.arr 87) (hx : FlightOk W x) : ∀ u [Later w0 u], rowOf u g 0 41 = some x.arr := fun u i => rowOf_eq (FlightE.arr_size hx) fun j v hj => by rw [Nat.zero_add, ((h u).2 j).1]; exact hj
theorem recv_at {w : World} {A : Option Addr} {l : List Int} (h : SlAt I64.cells 1 w A l) {i : Int} (h0 : 0 ≤ i) (h1 : i < l.length) : ∃ b o, A = some ⟨b, o, none⟩ ∧ ∀ u [Later w u], u.cell? ⟨b, o + i.toNat, none⟩ = some (.int .i64 (l.getD i.toNat 0)) := by
  have hk : i.toNat < l.length := by omega
  obtain ⟨b, o, x, hA, hb, hx, hc⟩ := h.at_ hk
  refine ⟨b, o, hA, fun u j => ?_⟩
  have := cell_below (I64.fact hc) j.below
  rw [List.getD_eq_getElem?_getD, hx]
  exact this
set_option maxRecDepth 100000 in
set_option maxHeartbeats 4000000 in
theorem flying_any (A : Option Addr) (c : Nat) (V : List ViewE) (g : Nat) (v : ViewE) (x : FlightE) (w : World) (H : ViewsAt w A V) (hM : FleetM w g V) (hf : FewV V) (hx : FlightOk w x) :
    Calls Tryz.prog 65 #[fleetV A c V g, v.v, x.v] w fun r w' => r = .returned (.bool (flyB V v x)) ∧ Below w.heap.size w w' := by
  have hl := hf.l
  have HV := H.later
  have HM := hM.later
  have HX : ∀ u [Later w u], Calls Tryz.prog 72 #[fleetV A c V g, .int .i64 x.dst] u (ViewPost V x.dst u) := fun u i => view_any A c V g x.dst u (HV u) (HM u) hf
  obtain ⟨t, ht⟩ : ∃ t, viewG V x.dst = t := ⟨_, rfl⟩
  obtain ⟨ok, hok⟩ : ∃ ok, (viewOf V x.dst).isSome = ok := ⟨_, rfl⟩
  obtain ⟨i, hi⟩ : ∃ i, IntKind.i64.wrap (v.machine - 1) = i := ⟨_, rfl⟩
  have Hr := hide (show flyB V v x = (ok && decide ((if 0 ≤ i ∧ i < (t.received.length : Int) then t.received.getD i.toNat 0 else 0) < x.seq)) by unfold flyB gotN; rw [ht, hok, hi])
  have hto := ht ▸ viewG_ok (w := w) H.v x.dst
  unfold ViewPost at HX
  rw [ht, hok] at HX
  clear ht hok
  go_enter Tryz.func65, Tryz.ntmps65
  go_upto_region 1 with fail
  refine wp_name ?_
  intro w0 hw0
  obtain ⟨B0, B1, B2, l0⟩ := box3 hw0
  have l00 : Later w0 w0 := Later.refl
  clear hw0
  obtain ⟨v0, -⟩ := ViewE.box B1
  obtain ⟨x0, x1, -⟩ := FlightE.box B2
  clear B1 B2
  go_upto_region 2 with (go_at_call 72; refine (HX _).mono ?_; rintro r w1 ⟨rfl, hb1⟩; have l1 := later hb1)
  refine wp_name ?_
  intro w2 hw2
  obtain ⟨B3, l2⟩ := box1 hw2
  have l22 : Later w2 w2 := Later.refl
  clear hw2
  obtain ⟨-, -, -, -, -, -, t10, -⟩ := ViewE.box B3
  clear B3
  by_cases h0 : 0 ≤ i
  · by_cases h1 : i < t.received.length
    · have hr := recv_at hto.r h0 h1
      obtain ⟨rb, ro, hA, hrc⟩ := hr
      rw [hA] at t10
      obtain ⟨k, rfl⟩ : ∃ k : Nat, i = k := ⟨i.toNat, by omega⟩
      simp only [Int.toNat_natCast] at hrc Hr
      obtain ⟨y, hy⟩ : ∃ y, t.received.getD k 0 = y := ⟨_, rfl⟩
      rw [hy] at hrc Hr
      rw [if_pos ⟨h0, h1⟩] at Hr
      clear hy
      have h1' : k < t.received.length := by omega
      cases ok
      all_goals go_wp2_with fail
      all_goals go_ret
      all_goals exact ⟨ret_bool (by rw [Hr.out]; simp), below_of⟩
    · rw [if_neg (by omega)] at Hr
      cases ok
      all_goals go_wp2_with fail
      all_goals go_ret
      all_goals exact ⟨ret_bool (by rw [Hr.out]; simp), below_of⟩
  · rw [if_neg (by omega)] at Hr
    cases ok
    all_goals go_wp2_with fail
    all_goals go_ret
    all_goals exact ⟨ret_bool (by rw [Hr.out]; simp), below_of⟩
end Go.Proofs.YtpkfenlfgdbkcaaGreatDoor

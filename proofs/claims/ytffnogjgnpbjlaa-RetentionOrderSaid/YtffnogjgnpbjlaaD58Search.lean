/-
  search whole: the tree without dominators and the lists of predecessors. Conditions: lengths up to 10000.
-/
import Derived.Test.YtffnogjgnpbjlaaD58Visit
import Derived.Test.YtffnogjgnpbjlaaD58Dom
import Derived.Laws.EntriesVeiled
set_option linter.unusedSimpArgs false
set_option linter.unusedVariables false
namespace Go.Proofs.Ytffnogjgnpbjlaa
open Go.RowKit
attribute [local go_sem] Oper.semAt_some Instr.makeFunc
attribute [local go_sem ↓] run_eql_id run_neq_id
attribute [local simp] heap_drew
theorem intTP : ElemT Try.prog 85 32 1 24 := ElemT.mk' (z := .slice none 0 0) Try.underlying85 (by kernel_rfl) rfl
theorem make_preds (w : World) (N : Nat) (hN : N ≤ 1000000) : (Instr.makeSlice 85 (.int .i64 N) (.int .i64 N)).run Try.prog w = .ok (.slice (some ⟨w.heap.size, 0, none⟩) N N) (w.alloc (.cells (List.replicate N (Value.slice none 0 0)).toArray 32)) := by
  obtain ⟨i, z, h1, h2, h3, h4, h5⟩ := intTP.info
  have h := run_make (P := Try.prog) w 85 32 i z intTP.slice h1 h2 .i64 .i64 (N : Int) (N : Int) (by omega) (by omega) (by rw [h4]; omega) (by omega)
  have hz : (Try.prog.info? 32).bind (·.zero) = some (.slice none 0 0) := by kernel_rfl
  rw [h1] at hz
  have hz2 : z = .slice none 0 0 := by
    have : i.zero = some (.slice none 0 0) := hz
    rw [h2] at this; injection this
  rw [Int.toNat_natCast, h3, Nat.mul_one, hz2] at h
  have e : madeCells (Value.slice none 0 0).cells N = (List.replicate N (Value.slice none 0 0)).toArray := by
    apply Array.ext
    · simp [madeCells]
    · intro j h6 h7
      simp [madeCells, Value.cells, Nat.mod_one]
  rw [e] at h
  exact h
/-- The fresh lists of predecessors. -/
def ps0 (n : Nat) : List PrE := List.replicate n ⟨none, 0, []⟩
theorem ps0_len {n : Nat} : (ps0 n).length = n := List.length_replicate
theorem ps0_st {B g n : Nat} {w : World} (hg : w.heap[g]? = some (.cells (List.replicate n (Value.slice none 0 0)).toArray 32 (0, 0))) (hB : B ≤ g) (hn : n ≤ 1000000) : PredsSt B w (some ⟨g, 0, none⟩) n (ps0 n) := by
  have hf : (ps0 n).flatMap PrE.cells = List.replicate n (Value.slice none 0 0) := by
    unfold ps0
    clear hg hn
    induction n with
    | zero => rfl
    | succ n ih => rw [List.replicate_succ, List.flatMap_cons, ih, List.replicate_succ]; rfl
  refine ⟨?_, fun x hx => ?_, fun i j x y hij hx hy g hxg => ?_⟩
  · unfold Own World.ownsRow
    rw [hf, ps0_len]
    refine ⟨by simp, .inr ⟨g, n, _, rfl, hB, hg, Nat.le_refl _, by unfold maxLen; omega, by simp, ?_⟩⟩
    simp
  · unfold ps0 at hx
    rw [List.mem_replicate] at hx
    rw [hx.2]
    exact Own.nil
  · unfold ps0 at hx
    have := List.mem_replicate.1 (List.mem_of_getElem? hx)
    rw [this.2] at hxg
    cases hxg
/-- What the first k objects and the roots have added. -/
def predsK (L : List NodeC) (roots ids : List IDE) (k i : Nat) : List Nat :=
  (ids.length :: List.range k).flatMap fun u => ((outRefs L roots ids u).filter fun y => decide (y = ids.getD i ⟨0, 0⟩)).map fun _ => u
theorem predsK_all {L : List NodeC} {roots ids : List IDE} {i : Nat} : predsK L roots ids ids.length i = predsL L roots ids i := rfl
theorem predsK_len {L : List NodeC} {roots ids : List IDE} {k i M : Nat} (h : ∀ u, (outRefs L roots ids u).length ≤ M) : (predsK L roots ids k i).length ≤ (k + 1) * M := by
  unfold predsK
  have : ∀ us : List Nat, (us.flatMap fun u => ((outRefs L roots ids u).filter fun y => decide (y = ids.getD i ⟨0, 0⟩)).map fun _ => u).length ≤ us.length * M := by
    intro us
    induction us with
    | nil => simp
    | cons u us ih =>
      rw [List.flatMap_cons, List.length_append, List.length_map, List.length_cons, Nat.add_mul, Nat.one_mul]
      have h1 := List.length_filter_le (fun y => decide (y = ids.getD i ⟨0, 0⟩)) (outRefs L roots ids u)
      have h2 := h u
      omega
  have h1 := this (ids.length :: List.range k)
  rwa [List.length_cons, List.length_range] at h1
theorem outRefs_len {L : List NodeC} {roots ids : List IDE} {M : Nat} (hr : roots.length ≤ M) (hf : ∀ n ∈ L, n.fields.length ≤ M) (u : Nat) : (outRefs L roots ids u).length ≤ M := by
  unfold outRefs
  split
  · exact hr
  · refine Nat.le_trans (refsOf_len _) ?_
    unfold nodeAt
    cases h : firstN L (ids.getD u ⟨0, 0⟩) with
    | none => simp
    | some n => exact hf n (firstN_some h).1
def PrK (L : List NodeC) (roots ids : List IDE) (k : Nat) (ps : List PrE) : Prop := ps.length = ids.length ∧ ∀ (i : Nat) (x : PrE), ps[i]? = some x → x.l = (predsK L roots ids k i).map fun n : Nat => (n : Int)
theorem PrK.start {L : List NodeC} {roots ids : List IDE} {ps : List PrE} (h : Grew ids ids.length roots (ps0 ids.length) ps) : PrK L roots ids 0 ps := by
  refine ⟨by rw [h.1, ps0_len], fun i x hx => ?_⟩
  obtain ⟨z, hz⟩ : ∃ z, (ps0 ids.length)[i]? = some z := ⟨_, List.getElem?_eq_getElem (by rw [← h.1]; exact get_lt hx)⟩
  obtain ⟨x', h1, h2⟩ := h.2 i z hz
  rw [hx] at h1
  injection h1 with h1
  subst h1
  have := (List.mem_replicate.1 (List.mem_of_getElem? hz)).2
  rw [this, List.nil_append] at h2
  rw [h2]
  simp [predsK, addL, outRefs]
theorem PrK.step {L : List NodeC} {roots ids : List IDE} {k : Nat} {q : List IDE} {ps ps' : List PrE} (h : PrK L roots ids k ps) (hg : Grew ids k q ps ps') (hq : q = outRefs L roots ids k) : PrK L roots ids (k + 1) ps' := by
  refine ⟨by rw [hg.1, h.1], fun i x hx => ?_⟩
  obtain ⟨z, hz⟩ : ∃ z, ps[i]? = some z := ⟨_, List.getElem?_eq_getElem (by rw [← hg.1]; exact get_lt hx)⟩
  obtain ⟨x', h1, h2⟩ := hg.2 i z hz
  rw [hx] at h1
  injection h1 with h1
  subst h1
  rw [h2, h.2 i z hz, hq]
  unfold predsK addL
  rw [List.range_succ, ← List.cons_append, List.flatMap_append, List.map_append, List.flatMap_singleton, List.map_map]
  rfl
theorem PrK.size {L : List NodeC} {roots ids : List IDE} {k M : Nat} {ps : List PrE} (h : PrK L roots ids k ps) (hM : ∀ u, (outRefs L roots ids u).length ≤ M) : ∀ x ∈ ps, x.l.length ≤ (k + 1) * M := fun x hx => by
  obtain ⟨i, hi⟩ := List.getElem?_of_mem hx
  rw [h.2 i x hi, List.length_map]
  exact predsK_len hM
theorem PredsSt.mono {B B' : Nat} {w : World} {PA : Option Addr} {PC : Nat} {ps : List PrE} (h : PredsSt B w PA PC ps) (hB : B' ≤ B) : PredsSt B' w PA PC ps := ⟨h.o.mono hB, fun x hx => (h.e x hx).mono hB, h.d⟩
theorem PredsSt.putObj {B D : Nat} {w : World} {PA : Option Addr} {PC : Nat} {ps : List PrE} {o : Obj} (h : PredsSt B w PA PC ps) (hD : D < B) : PredsSt B (w.putObj D o) PA PC ps := ⟨own_putObj h.o hD, fun x hx => own_putObj (h.e x hx) hD, h.d⟩
theorem node_at {A : Option Addr} {l : List NodeE} {w : World} (h : SlAt NodeE.cells 5 w A l) {k : Nat} {x : NodeE} (hx : l[k]? = some x) : ∃ b off, A = some ⟨b, off, none⟩ ∧ ∀ (j : Nat) (v : Value), (NodeE.cells x)[j]? = some v → ∀ u [Later w u], u.cell? ⟨b, off + k * 5 + j, none⟩ = some v := by
  obtain ⟨b, off, e, hlt, hc⟩ := h (by rintro rfl; simp at hx)
  exact ⟨b, off, e, fun j v hv => Later.cell (b := w) (hc k x hx j v hv)⟩
set_option maxRecDepth 100000 in
set_option maxHeartbeats 8000000 in
theorem search_any (A : Option Addr) (c : Nat) (l : List NodeE) (RA : Option Addr) (rc : Nat) (roots : List IDE) (w : World) (H : NodesAt w A l) (hs : SlAt IDE.cells 2 w RA roots) (hl : l.length ≤ 10000) (hf : ∀ n ∈ l, n.fields.length ≤ 10000) (hr : roots.length ≤ 10000) :
    Calls Try.prog 50 #[.agg #[.slice A l.length c], .slice RA roots.length rc] w (SearchP l roots w) := by
  have HL := H.later
  have HR : ∀ u [Later w u], SlAt IDE.cells 2 u RA roots := fun u i => hs.below i.below
  have hll : (conL l).length = l.length := by unfold conL; rw [List.length_map]
  have hmm := @run_makeMap Try.prog
  refine calls_marks Try.func50 rfl ?_
  simp only [Try.ntmps50, List.size_toArray, List.length_cons, List.length_nil, Nat.reduceAdd, Nat.reduceSub, Array.replicate_succ, Array.replicate_zero, List.push_toArray, List.append_toArray, List.nil_append, List.cons_append]
  go_wp2_with (go_at_call 45; refine (backNode_mk _ A l.length c _ rfl).mono ?_; rintro e w' ⟨rfl, rfl⟩)
  clear hmm
  refine wp_name ?_
  intro w1 hw1
  have b0 : w1.heap[w.heap.size]? = some (.cells #[.slice A l.length c] 24 (0, 0)) := (by rw [← hw1]; simp only [heap_alloc_if, World.size_alloc]; repeat (first | rw [if_pos trivial] | rw [if_neg (by omega)] | rw [if_pos (by omega)]); try rfl)
  have b1 : w1.heap[w.heap.size + 1]? = some (.map #[] 0) := (by rw [← hw1]; simp only [heap_alloc_if, World.size_alloc]; repeat (first | rw [if_pos trivial] | rw [if_neg (by omega)] | rw [if_pos (by omega)]); try rfl)
  have b2 : w1.heap[w.heap.size + 1 + 1]? = some (.cells #[.map (some (w.heap.size + 1))] 79 (0, 0)) := (by rw [← hw1]; simp only [heap_alloc_if, World.size_alloc]; repeat (first | rw [if_pos trivial] | rw [if_neg (by omega)] | rw [if_pos (by omega)]); try rfl)
  have b3 : w1.heap[w.heap.size + 1 + 1 + 1]? = some (.cells #[.slice A l.length c] 22 (0, 0)) := (by rw [← hw1]; simp only [heap_alloc_if, World.size_alloc]; repeat (first | rw [if_pos trivial] | rw [if_neg (by omega)] | rw [if_pos (by omega)]); try rfl)
  have hz1 : w1.heap.size = w.heap.size + 1 + 1 + 1 + 1 := by rw [← hw1]; simp
  have hb1 : Below w.heap.size w w1 := by rw [← hw1]; exact (by repeat (first | with_reducible exact Below.refl _ _ | (with_reducible refine Below.drew ?_) | (with_reducible refine below_drewN ?_ _) | (with_reducible refine Below.alloc ?_ ?_ _; rotate_left; (first | omega | (simp <;> omega))) | (with_reducible refine Below.setCell ?_ ?_ _; rotate_left; (first | omega | (simp <;> omega)))))
  have hM1 : MapFn IDE.vv NodeE.v w1 (w.heap.size + 1) (fillB NodeE.id []) := ⟨#[], 0, b1, by simp, by simp [fillB], by simp⟩
  clear hw1 b1
  refine wp_rangeBoxed (gf := 65) (lb := #[.pointer (some ⟨w.heap.size + 1 + 1 + 1, 0, none⟩)]) rfl (enters_of Try.func65 (by kernel_rfl) rfl) (backNode_stops 8 (by omega) (w.heap.size + 1 + 1 + 1) 22 A c l (by omega) w H.s w1 hb1 b3) (by omega) (by omega) (Below.refl _ _) (fun _ => rfl)
    (fun pre W => MapFn IDE.vv NodeE.v W (w.heap.size + 1) (fillB NodeE.id pre) ∧ W.heap[w.heap.size]? = some (.cells #[.slice A l.length c] 24 (0, 0)) ∧ W.heap[w.heap.size + 1 + 1]? = some (.cells #[.map (some (w.heap.size + 1))] 79 (0, 0)) ∧
      W.heap[w.heap.size + 1 + 1 + 1]? = some (.cells #[.slice A l.length c] 22 (0, 0)) ∧ Below w.heap.size w W ∧ w1.heap.size ≤ W.heap.size)
    ?hI (fun _ _ h => h.2.2.2.2.2) ⟨hM1, b0, b2, b3, hb1, Nat.le_refl _⟩ (arr := fun x => x.2.arr) (T := 56) (tm := ?tm) ?hassign ?hbody ?hdone
  case hI =>
    refine ownFrom_of ?_
    rintro s W W' ⟨hM, h0, h2, h3, hb, hz⟩ hk hB hs
    exact ⟨hM.of_heap (by have := hM.lt; obtain ⟨o, ho⟩ : ∃ o, W.heap[w.heap.size + 1]? = some o := ⟨_, Array.getElem?_eq_getElem this⟩; rw [ho]; exact hk _ _ (by omega) ho), hk _ _ (by omega) h0, hk _ _ (by omega) h2, hk _ _ (by omega) h3, hb.trans (hB _ (by omega) (by omega)), by omega⟩
  case hassign =>
    intro l x W Bx K hB hK
    simp only [NodeE.enc2]
    gi_wp2
    rfl
  case hbody =>
    rintro l pre x Bx W h1 h2 h3 ⟨hM, h0, hv, hs', hb, hz⟩ hlen
    have X : Boxed W Bx x.2.arr 56 := boxed h3
    have V := boxed hv
    obtain ⟨U, hU1, hU2, hU3, hU4⟩ := run_store keyI Try.underlying79 hM
    have hF := hide (hU2 W x.2.id x.2)
    have hU1' := fun (u : World) [Later W u] => hU1 u x.2.id x.2
    dsimp only [IDE.vv, NodeE.id, NodeE.v] at hU1'
    clear hU2
    gi_wp2
    exact ⟨keepsFrom_putAt (by omega), KpB.putAt (by omega) (by omega), by rw [fillB_snoc]; exact hF.out, by rw [putAt_heap (by omega)]; exact h0, by rw [putAt_heap (by omega)]; exact hv, by rw [putAt_heap (by omega)]; exact hs', putAt_below hb (by omega), by rw [putAt_size]; omega⟩
  case hdone =>
    rintro D ys W hD rfl ⟨hM, h0, hv, hs', hb, hz⟩ hK
    rw [fillN_all] at hM
    have B0 := boxed h0
    have V := boxed hv
    have HD := there_of hK
    have lw : Later w W := ⟨hb⟩
    have hDl := blk_lt hK
    have hbW := hb
    have hmm := @run_makeMap Try.prog
    clear hK b0 b2 b3 hM1 hb1 hs
    go_upto_region 8 with fail
    refine wp_name ?_
    intro w5 hw5
    have k0 : w5.heap[W.heap.size]? = some (.cells #[.slice none 0 0, .slice none 0 0, .slice none 0 0] 69 (0, 0)) := (by rw [← hw5]; simp only [heap_alloc_if, World.size_alloc]; repeat (first | rw [if_pos trivial] | rw [if_neg (by omega)] | rw [if_pos (by omega)]); try rfl)
    have k1 : w5.heap[W.heap.size + 1]? = some (.cells #[.pointer (some ⟨W.heap.size, 0, none⟩)] 65 (0, 0)) := (by rw [← hw5]; simp only [heap_alloc_if, World.size_alloc]; repeat (first | rw [if_pos trivial] | rw [if_neg (by omega)] | rw [if_pos (by omega)]); try rfl)
    have k2 : w5.heap[W.heap.size + 1 + 1]? = some (.map #[] 0) := (by rw [← hw5]; simp only [heap_alloc_if, World.size_alloc]; repeat (first | rw [if_pos trivial] | rw [if_neg (by omega)] | rw [if_pos (by omega)]); try rfl)
    have k3 : w5.heap[W.heap.size + 1 + 1 + 1]? = some (.cells #[.map (some (W.heap.size + 1 + 1))] 73 (0, 0)) := (by rw [← hw5]; simp only [heap_alloc_if, World.size_alloc]; repeat (first | rw [if_pos trivial] | rw [if_neg (by omega)] | rw [if_pos (by omega)]); try rfl)
    have k4 : w5.heap[W.heap.size + 1 + 1 + 1 + 1]? = some (.cells #[.nilFunc] 101 (0, 0)) := (by rw [← hw5]; simp only [heap_alloc_if, World.size_alloc]; repeat (first | rw [if_pos trivial] | rw [if_neg (by omega)] | rw [if_pos (by omega)]); try rfl)
    have hb5 : Below W.heap.size W w5 := by rw [← hw5]; exact (by repeat (first | with_reducible exact Below.refl _ _ | (with_reducible refine Below.drew ?_) | (with_reducible refine below_drewN ?_ _) | (with_reducible refine Below.alloc ?_ ?_ _; rotate_left; (first | omega | (simp <;> omega))) | (with_reducible refine Below.setCell ?_ ?_ _; rotate_left; (first | omega | (simp <;> omega)))))
    have hz5 : w5.heap.size = W.heap.size + 1 + 1 + 1 + 1 + 1 := by rw [← hw5]; simp
    have lW5 : Later W w5 := ⟨hb5⟩
    have B4 := boxed k4
    clear hw5 hmm
    go_upto_region 9 with fail
    refine wp_name ?_
    intro w6 hw6
    have hfar : ∀ {k : Nat}, k ≠ W.heap.size + 1 + 1 + 1 + 1 → w6.heap[k]? = w5.heap[k]? := fun hk => by rw [← hw6]; exact blk_far hk _
    have h64 : w6.heap[W.heap.size + 1 + 1 + 1 + 1]? = some (.cells #[.func (.func 69) #[] #[.pointer (some ⟨w.heap.size + 1 + 1, 0, none⟩), .pointer (some ⟨W.heap.size + 1 + 1 + 1, 0, none⟩), .pointer (some ⟨W.heap.size + 1 + 1 + 1 + 1, 0, none⟩), .pointer (some ⟨W.heap.size + 1, 0, none⟩)]] 101 (0, 0)) := by rw [← hw6]; exact (blk_set k4 0 _).trans (by simp)
    have hb6 : Below W.heap.size W w6 := by rw [← hw6]; exact hb5.setCell (show W.heap.size ≤ W.heap.size + 1 + 1 + 1 + 1 by omega) _
    have S0 : VSt W l (w.heap.size + 1 + 1) (W.heap.size + 1 + 1 + 1) (W.heap.size + 1 + 1 + 1 + 1) (W.heap.size + 1) (W.heap.size + 1 + 1) W.heap.size w6 [] [] none 0 none 0 := ⟨hb6, Nat.le_refl _, by omega, (hfar (by omega)).trans k3, h64, (hfar (by omega)).trans k1, ⟨#[], 0, (hfar (by omega)).trans k2, by simp, by simp [idxM], by simp⟩, (hfar (by omega)).trans k0, Own.nil, Own.nil⟩
    clear hfar hw6 B4 k0 k1 k2 k3 k4 h64 hz5 lW5 hb5
    have lW6 : Later W w6 := ⟨hb6⟩
    go_upto_region 10 with fail
    go_loopw [34] (fun iv wr => ∃ (k : Nat) (ids : List IDE) (iA : Option Addr) (iC : Nat) (nA : Option Addr) (nC : Nat), k ≤ roots.length ∧ iv = .int .i64 k ∧ VSt W l (w.heap.size + 1 + 1) (W.heap.size + 1 + 1 + 1) (W.heap.size + 1 + 1 + 1 + 1) (W.heap.size + 1) (W.heap.size + 1 + 1) W.heap.size wr ids [] iA iC nA nC ∧ Hid (DfsI (conL l) roots ids []) ∧
      Hid (∀ j y, j < k → roots[j]? = some y → (firstN (conL l) y).isSome → y ∈ ids)) (fun iv _ => roots.length - (intOf iv).toNat)
    case atStart => exact ⟨0, [], none, 0, none, 0, by omega, rfl, S0, hide (DfsI.start _ _), hide (fun j y hj => by omega)⟩
    case round =>
      obtain ⟨k, ids, iA, iC, nA, nC, hk, rfl, Sr, hDr, hdone⟩ := hrel
      have lWr : Later W wr := ⟨Sr.lw⟩
      have lwr : Later w wr := lw.trans lWr
      have lrr : Later wr wr := Later.refl
      have X2 := boxed Sr.h2
      have X3 := boxed Sr.h3
      have X4 := boxed Sr.h4
      by_cases hlt : k < roots.length
      · have hki : (k : Int) < (roots.length : Int) := by omega
        obtain ⟨y, hy⟩ : ∃ y, roots[k]? = some y := ⟨_, List.getElem?_eq_getElem hlt⟩
        obtain ⟨b9, o9, rfl, C1, C2⟩ := id_at (HR wr) hy
        have Hy := hide hy
        have hym := hide (List.mem_of_getElem? hy)
        clear hy
        obtain ⟨y1, y2⟩ := y
        dsimp only at C1 C2
        go_upto_region 12 with fail
        refine wp_name ?_
        intro w7 hw7
        obtain ⟨B9, l7⟩ := box1 hw7
        clear hw7
        have HV := visit_any W A c l roots (w.heap.size + 1 + 1) (W.heap.size + 1 + 1 + 1) (W.heap.size + 1 + 1 + 1 + 1) (W.heap.size + 1) (w.heap.size + 1) (W.heap.size + 1 + 1) W.heap.size (H.below hbW) hl hf hv hM l.length ids [] iA iC nA nC ⟨y1, y2⟩ w7 (by omega) (Sr.below (l7 wr).below) hDr.out (.inl hym.out)
        dsimp only [IDE.v] at HV
        clear X2 X4
        go_upto_region 13 with (go_at_call 69; refine HV.mono ?_; intro r w8 hh; obtain ⟨rfl, ids2, iA2, iC2, nA2, nC2, S8, hD8, hs8, hx8, on8, hv8⟩ := hh)
        go_wp2_with fail
        go_roundw
        case rel => exact ⟨k + 1, ids2, iA2, iC2, nA2, nC2, by omega, by go_num, S8, hide hD8, hide (fun j y hj hjy hs => by
          by_cases e : j = k
          · subst e
            have : y = ⟨y1, y2⟩ := Option.some.inj (hjy.symm.trans Hy.out)
            subst this
            rcases hx8 hs with h | h
            · exact h
            · cases h
          · exact hs8 y (hdone.out j y (by omega) hjy hs))⟩
        case measure => simp [intOf]; omega
      · have hkk : k = roots.length := by omega
        subst hkk
        have hDf := hide (hDr.out.done fun r hr hs => by
          obtain ⟨j, hj⟩ := List.getElem?_of_mem hr
          exact hdone.out j r (get_lt hj) hj hs)
        have hil : ids.length ≤ 10000 := by have := hDr.out.room; omega
        have hnd := hide hDf.out.nodup
        clear hdone hDr
        have hmk := fun u : World => make_preds u ids.length (by omega)
        have XT := boxed Sr.ht
        go_upto_region 15 with fail
        refine wp_name ?_
        intro w7 hw7
        have p0 : w7.heap[wr.heap.size]? = some (.cells (List.replicate ids.length (Value.slice none 0 0)).toArray 32 (0, 0)) := (by rw [← hw7]; simp only [heap_alloc_if, World.size_alloc]; repeat (first | rw [if_pos trivial] | rw [if_neg (by omega)] | rw [if_pos (by omega)]); try rfl)
        have p1 : w7.heap[wr.heap.size + 1]? = some (.cells #[.slice (some ⟨wr.heap.size, 0, none⟩) ids.length ids.length] 85 (0, 0)) := (by rw [← hw7]; simp only [heap_alloc_if, World.size_alloc]; repeat (first | rw [if_pos trivial] | rw [if_neg (by omega)] | rw [if_pos (by omega)]); try rfl)
        obtain ⟨gP, hgP⟩ : ∃ g, g = wr.heap.size := ⟨_, rfl⟩
        rw [← hgP] at p0 p1 ⊢
        have hb7 : Below wr.heap.size wr w7 := by rw [← hw7]; exact (by repeat (first | with_reducible exact Below.refl _ _ | (with_reducible refine Below.drew ?_) | (with_reducible refine below_drewN ?_ _) | (with_reducible refine Below.alloc ?_ ?_ _; rotate_left; (first | omega | (simp <;> omega))) | (with_reducible refine Below.setCell ?_ ?_ _; rotate_left; (first | omega | (simp <;> omega)))))
        have hWr : W.heap.size ≤ gP := by rw [hgP]; exact Sr.lw.size
        have S7 := Sr.below hb7
        clear hw7 XT X2 X3 X4 hgP hb7 Sr lrr lWr lwr
        have P7 := ps0_st (B := W.heap.size) p0 hWr (by omega)
        have hz7 : W.heap.size ≤ w7.heap.size := S7.lw.size
        have HRo : ∀ w', OnlyI W.heap.size w7 w' → SlAt IDE.cells 2 w' RA roots := fun w' ho => (HR W).below (S7.lw.trans (ho.base hz7))
        have HL1 := link_any ids.length ids roots hnd.out W.heap.size (some ⟨gP, 0, none⟩) ids.length (ps0 ids.length) ps0_len (W.heap.size + 1 + 1 + 1) (gP + 1) (W.heap.size + 1 + 1) RA rc w7 S7.h2 S7.hI (by rw [ps0_len]; exact p1) P7 hz7 HRo (by omega) (fun x hx => by rw [(List.mem_replicate.1 hx).2]; simp) (by omega)
        have XT := boxed S7.ht
        have X4 := boxed S7.h4
        have lW7 : Later W w7 := ⟨S7.lw⟩
        have l77 : Later w7 w7 := Later.refl
        go_upto_region 17 with (go_at_call 71; refine HL1.mono ?_; intro r w8 hh; obtain ⟨rfl, ps1, S1, hg1, ho1⟩ := hh)
        have hk1 := hide (PrK.start (L := conL l) (roots := roots) hg1)
        have kt := ho1.cells S7.ht (by decide) (by decide)
        have k4 := ho1.cells S7.h4 (by decide) (by decide)
        have k2 := ho1.cells S7.h2 (by decide) (by decide)
        have k14 := ho1.cells p1 (by decide) (by decide)
        have hI8 := ho1.mapFn S7.hI
        have oi8 := ho1.own S7.oi (by decide) (by decide)
        have on8 := ho1.own S7.on (by decide) (by decide)
        have hb8 : Below W.heap.size W w8 := S7.lw.trans (ho1.base hz7)
        have hz8 : W.heap.size ≤ w8.heap.size := hb8.size
        have lW8 : Later W w8 := ⟨hb8⟩
        have hout := hide (show ∀ u, (outRefs (conL l) roots ids u).length ≤ 10000 from outRefs_len hr fun n hn => by
          obtain ⟨m, hm, rfl⟩ := List.mem_map.1 hn
          exact hf m hm)
        clear hg1 HL1 HRo XT X4 S7 P7 p0 p1 lW7 l77 ho1
        have XT := boxed kt
        have X4 := boxed k4
        have l88 : Later w8 w8 := Later.refl
        go_upto_region 18 with fail
        go_loopw [62] (fun iv wq => ∃ (k : Nat) (ps : List PrE), k ≤ ids.length ∧ iv = .int .i64 k ∧ PredsSt W.heap.size wq (some ⟨gP, 0, none⟩) ids.length ps ∧ Hid (PrK (conL l) roots ids k ps) ∧ OnlyI W.heap.size w8 wq) (fun iv _ => ids.length - (intOf iv).toNat)
        case atStart => exact ⟨0, ps1, by omega, rfl, S1, hk1, OnlyI.refl⟩
        case round =>
          obtain ⟨k, ps, hk, rfl, Sr, hpk, hor⟩ := hrel
          have k4r := hor.cells k4 (by decide) (by decide)
          have k2r := hor.cells k2 (by decide) (by decide)
          have k14r := hor.cells k14 (by decide) (by decide)
          have hIr := hor.mapFn hI8
          have onr := hor.own on8 (by decide) (by decide)
          have hbr : Below W.heap.size W wr := hb8.trans (hor.base hz8)
          have lWr : Later W wr := ⟨hbr⟩
          have lrr : Later wr wr := Later.refl
          by_cases hlt : k < ids.length
          · have hki : (k : Int) < (ids.length : Int) := by omega
            obtain ⟨x, hx⟩ : ∃ x, ids[k]? = some x := ⟨_, List.getElem?_eq_getElem hlt⟩
            obtain ⟨nn, hnn⟩ := Option.isSome_iff_exists.1 ((hDf.out.mem x).1 (List.mem_of_getElem? hx)).node
            have hfe := hnn
            rw [firstE_N] at hfe
            obtain ⟨mm, hme, rfl⟩ := Option.map_eq_some_iff.1 hfe
            have hml := (firstE_some hme).1
            have hmf := hf mm hml
            have hnk : (nodesE l ids)[k]? = some mm := by unfold nodesE; rw [List.getElem?_map, hx]; simp [hme]
            have hqo := hide (hDf.out.out hx hnn)
            have HFol : ∀ u [Later W u], Calls Try.prog 70 #[mm.v] u (FolP mm.con u) := fun u i => followed_any mm u ((H.f mm hml).below (lw.trans i).below) hmf
            obtain ⟨b9, o9, rfl, C⟩ := node_at ((onr.at_ NodeE.enc).2.2) hnk
            have hpl := hpk.out.1
            have hszx := hpk.out.size hout.out
            have HLk : ∀ (u : World) (q : List IDE) (QA : Option Addr) (QC base : Nat), Below wr.heap.size wr u → Own IDE.cells 2 46 base u (.slice QA q.length QC) q → q.length ≤ 20000 → Calls Try.prog 71 #[.int .i64 k, .slice QA q.length QC, .pointer (some ⟨W.heap.size + 1 + 1 + 1, 0, none⟩), .pointer (some ⟨gP + 1, 0, none⟩)] u (LinkP W.heap.size ids k q (some ⟨gP, 0, none⟩) ids.length ps u) := fun u q QA QC base hb hoq hql =>
              link_any k ids q hnd.out W.heap.size (some ⟨gP, 0, none⟩) ids.length ps hpl (W.heap.size + 1 + 1 + 1) (gP + 1) (W.heap.size + 1 + 1) QA QC u (blk_below k2r hb) (hIr.below hb) (by rw [hpl]; exact blk_below k14r hb) (Sr.below hb) (Nat.le_trans hbr.size hb.size) (fun w' ho => ((ho.own hoq (by decide) (by decide)).at_ IDE.enc).2.2) hql (fun x hx => Nat.le_trans (hszx x hx) (Nat.le_trans (Nat.mul_le_mul_right 10000 (show k + 1 ≤ 10001 by omega)) (by omega))) (by omega)
            obtain ⟨m1, m2, mk, mc, mA, mp, mf⟩ := mm
            have C0 := C 0 _ rfl
            have C1 := C 1 _ rfl
            have C2 := C 2 _ rfl
            have C3 := C 3 _ rfl
            have C4 := C 4 _ rfl
            rw [Nat.add_zero] at C0
            dsimp only [NodeE.v] at HFol hmf
            clear C hnn hfe hme hml hnk hpl hszx hx hIr k2r k14r XT X4 onr
            go_upto_region 20 with fail
            refine wp_name ?_
            intro w9 hw9
            obtain ⟨B9, l9⟩ := box1 hw9
            clear hw9
            have l99 : Later w9 w9 := Later.refl
            have hqb := hide (show (refsOf (NodeE.con ⟨m1, m2, mk, mc, mA, mp, mf⟩)).length ≤ 20000 from Nat.le_trans (refsOf_len _) (Nat.le_trans hmf (by omega)))
            go_upto_region 21 with (first | (go_at_call 70; refine (HFol _).mono ?_; rintro r w10 ⟨q, QA, QC, hq, rfl, hoq, hb10⟩; have l10 := later hb10) | (go_at_call 71; refine (HLk _ _ _ _ _ (show Below wr.heap.size wr w10 from below_of) hoq (by rw [hq.out]; exact hqb.out)).mono ?_; intro r w11 hh; obtain ⟨rfl, ps2, S2, hg2, ho2⟩ := hh))
            go_wp2_with fail
            go_roundw
            case rel => exact ⟨k + 1, ps2, by omega, by go_num, S2, hide (hpk.out.step hg2 (by rw [hqo.out, hq.out])), (hor.trans (OnlyI.of_below (show Below wr.heap.size wr w10 from below_of))).trans ho2⟩
            case measure => simp [intOf]; omega
          · have hkk : k = ids.length := by omega
            subst hkk
            have ktr := hor.cells kt (by decide) (by decide)
            have oir := hor.own oi8 (by decide) (by decide)
            have X4r := boxed k4r
            have X14r := boxed k14r
            go_upto_region 22 with fail
            (refine wp_region_after (by kernel_rfl) (by kernel_rfl) ?_
             repeat (any_goals (first | go_big_quiet_skip | (go_big_quiet_want; go_big_quiet_op; first | go_big_quiet_on | go_big_quiet_call (fail)) | quiet_step (fail) | (refine wpQuiet_step (fun K hK => ?_); go_simp; split <;> (refine hK _ ?_; clear hK K))))
             all_goals (refine wpQuiet_nil ?_; intro _ hw'; obtain ⟨u', hw''⟩ := hw'; subst hw''; obtain ⟨wd, hbd⟩ := u'; simp only [After.val_mk]))
            go_wp2_with fail
            have lWd : Later W wd := ⟨hbr.trans (hbd.mono hbr.size)⟩
            have hgtD : W.heap.size ≠ D := by omega
            have hwW := hb.size
            refine ret_marked rfl (HD _) (results_tmp2 rfl _ _ _) ⟨W.heap.size, ids, iA, iC, nA, nC, some ⟨gP, 0, none⟩, ids.length, ps, rfl, hDf, hwW, ?_, ?_, ?_, ?_, ?_, ?_⟩
            · rw [putObj_eq, putAt_heap hgtD]; exact blk_below ktr hbd
            · exact (own_putObj (oir.below hbd) hDl).mono hwW
            · exact (own_putObj (onr.below hbd) hDl).mono hwW
            · exact ((Sr.below hbd).putObj hDl).mono hwW
            · exact hide ⟨hpk.out.1, fun i x hx => (hpk.out.2 i x hx).trans (by rw [predsK_all])⟩
            · exact putObj_below (hb.trans (lWd.below.mono hwW)) (by omega)
/-- dominators: the tree. -/
theorem dominators_any (A : Option Addr) (c : Nat) (l : List NodeE) (RA : Option Addr) (rc : Nat) (roots : List IDE) (w : World) (H : NodesAt w A l) (hR : SlAt IDE.cells 2 w RA roots) (hl : l.length ≤ 10000) (hf : ∀ n ∈ l, n.fields.length ≤ 10000) (hr : roots.length ≤ 10000) :
    Calls Try.prog 34 #[.agg #[.slice A l.length c], .slice RA roots.length rc] w (TreeP l roots w) :=
  dominators_of (fun A c l RA rc roots w H hs hl hf hr => search_any A c l RA rc roots w H hs hl hf hr) A c l RA rc roots w H hR hl hf hr
end Go.Proofs.Ytffnogjgnpbjlaa

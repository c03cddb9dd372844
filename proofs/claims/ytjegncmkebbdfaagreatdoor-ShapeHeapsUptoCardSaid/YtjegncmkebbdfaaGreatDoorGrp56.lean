/-
  Small texts of this seat, put into one. Conditions stand in each theorem.
-/
import Derived.Test.YtjegncmkebbdfaaGreatDoorGrp54
import Derived.Test.YtjegncmkebbdfaaGreatDoorGrp55
import Derived.Test.YtjegncmkebbdfaaGreatDoorF16Few
import Derived.Test.YtjegncmkebbdfaaGreatDoorF16Plain
import Derived.Deep.RegionHeld3
set_option linter.unusedSimpArgs false
set_option linter.unusedVariables false
namespace Go.Proofs.YtjegncmkebbdfaaGreatDoor
open Go.RowKit
/-! ### What put lays: plain -/
def hdN (n : NodeC) : HdE := if n.kind = 3 then ⟨0, max n.clas 1, n.fields.length⟩ else ⟨n.kind, n.clas, n.fields.length⟩
def hdF (n : NodeC) : HdE := if n.kind = 3 then (hdN n).stub else hdN n
def nodeW (n : NodeC) : List Int := if n.kind = 3 then stubW (objW (hdN n) n.id) 0 (hdN n) else objW (hdN n) n.id
structure NodeOk (n : NodeC) : Prop where
  v : validNodeB n = true
theorem NodeOk.parts {n : NodeC} (h : NodeOk n) : (∀ v ∈ n.fields, validValB v = true) ∧ validIDB n.id = true ∧ kindB n = true := by
  have := h.v
  unfold validNodeB at this
  simp only [Bool.and_eq_true, List.all_eq_true] at this
  exact ⟨this.1.1, this.1.2, this.2⟩
theorem NodeOk.kinds {n : NodeC} (h : NodeOk n) : ((n.kind = 0 ∨ n.kind = 1) ∧ 1 ≤ n.clas ∧ n.clas ≤ 60 ∧ n.fields.length ≤ 30) ∨ (n.kind = 2 ∧ n.clas = 0 ∧ n.fields.length = 1) ∨ (n.kind = 3 ∧ 0 ≤ n.clas ∧ n.clas ≤ 60 ∧ n.fields.length = 0) := by
  have := h.parts.2.2
  unfold kindB at this
  split at this
  · next h1 => exact .inl ⟨h1, of_decide_eq_true this⟩
  · split at this
    · next h1 =>
      simp only [Bool.and_eq_true] at this
      exact .inr (.inl ⟨h1, of_decide_eq_true this.1⟩)
    · split at this
      · next h1 => exact .inr (.inr ⟨h1, of_decide_eq_true this⟩)
      · cases this
theorem hdN_fields (n : NodeC) : (hdN n).fields = n.fields.length := by unfold hdN; split <;> rfl
theorem hdN_sz (n : NodeC) : (hdN n).sz = 2 + max n.fields.length 2 := by unfold HdE.sz; rw [hdN_fields]; simp
theorem hdF_sz (n : NodeC) : (hdF n).sz = (hdN n).sz := by unfold hdF; split <;> rfl
theorem hdF_fields (n : NodeC) : (hdF n).fields = n.fields.length := by unfold hdF; split <;> exact hdN_fields n
theorem hdN_ok {n : NodeC} (h : NodeOk n) : HdOk (hdN n) ∧ (hdN n).kind ≠ 3 ∧ (hdN n).kind ≠ 4 := by
  unfold hdN
  rcases h.kinds with ⟨hk, h1, h2, h3⟩ | ⟨hk, h1, h2⟩ | ⟨hk, h1, h2, h3⟩
  · rw [if_neg (by rcases hk with hk | hk <;> omega)]
    refine ⟨⟨by simp only; omega, by simp only; omega, by rcases hk with hk | hk <;> simp [hk], fun _ => by simp only; omega, fun e => ?_⟩, ?_, ?_⟩ <;> simp only at * <;> rcases hk with hk | hk <;> omega
  · rw [if_neg (by omega)]
    exact ⟨⟨by simp only; omega, by simp only; omega, by simp only; omega, fun e => by simp only at e; omega, fun _ => by simp only; omega⟩, by simp only; omega, by simp only; omega⟩
  · rw [if_pos hk]
    exact ⟨⟨by simp only; omega, by simp only; omega, by simp only; omega, fun e => by simp only; omega, fun e => by simp only at e; omega⟩, by simp only; omega, by simp only; omega⟩
theorem hdF_ok {n : NodeC} (h : NodeOk n) : HdOk (hdF n) ∧ (hdF n).kind ≠ 4 := by
  unfold hdF
  split
  · exact ⟨(hdN_ok h).1.stub, by simp⟩
  · exact ⟨(hdN_ok h).1, (hdN_ok h).2.2⟩
theorem hdF_stands {n : NodeC} (h : NodeOk n) (hf : 0 < n.fields.length) : standsB (hdF n) = false := by
  have hk : n.kind ≠ 3 := by
    rcases h.kinds with ⟨hk, -⟩ | ⟨hk, -⟩ | ⟨-, -, -, h3⟩
    · rcases hk with hk | hk <;> omega
    · omega
    · omega
  unfold hdF standsB
  rw [if_neg hk]
  exact decide_eq_false (by rintro (e | e); exact (hdN_ok h).2.1 e; exact (hdN_ok h).2.2 e)
theorem nodeW_len (n : NodeC) : (nodeW n).length = (hdN n).sz := by
  unfold nodeW
  split
  · rw [stubW_len, objW_len]
  · exact objW_len _ _
theorem stubW_eq (ws : List Int) (k : Nat) (h : HdE) : stubW ws k h = ((ws.set k h.stub.enc).set (k + 2) 2).set (k + 3) 7 := rfl
theorem stubW_app (ws a : List Int) (h : HdE) : stubW (ws ++ a) ws.length h = ws ++ stubW a 0 h := by
  rw [stubW_eq, stubW_eq, List.set_append_right _ _ (Nat.le_refl _), List.set_append_right _ _ (by omega), List.set_append_right _ _ (by omega)]
  rw [show ws.length + 3 - ws.length = 0 + 3 by omega, show ws.length + 2 - ws.length = 0 + 2 by omega, Nat.sub_self]
theorem ObjAt.within {a b c : List Int} {k : Nat} {h : HdE} {x : IDE} (H : ObjAt b k h x) : ObjAt (a ++ (b ++ c)) (a.length + k) h x := by
  have h1 := (List.getElem?_eq_some_iff.1 H.hd).1
  have h2 := (List.getElem?_eq_some_iff.1 H.id).1
  refine ⟨?_, ?_, ?_, H.ok, H.ok'⟩
  · rw [List.getElem?_append_right (by omega), show a.length + k - a.length = k by omega, List.getElem?_append_left h1]; exact H.hd
  · rw [List.getElem?_append_right (by omega), show a.length + k + 1 - a.length = k + 1 by omega, List.getElem?_append_left h2]; exact H.id
  · have := H.le; rw [List.length_append, List.length_append]; omega
theorem nodeW_obj {n : NodeC} (h : NodeOk n) : ObjAt (nodeW n) 0 (hdF n) n.id := by
  have h0 := (hdN_ok h).1
  have hx := h.parts.2.1
  have h1 : ObjAt (objW (hdN n) n.id) 0 (hdN n) n.id := by
    have := obj_new (ws := []) h0 hx
    simpa using this
  unfold nodeW hdF
  split
  · have hl : (objW (hdN n) n.id).length = (hdN n).sz := objW_len _ _
    have := (hdN n).sz_two
    refine ⟨?_, ?_, by rw [stubW_len, hl]; show 0 + (hdN n).stub.sz ≤ _; have : (hdN n).stub.sz = (hdN n).sz := rfl; omega, h0.stub, hx⟩
    · rw [stubW_eq, List.getElem?_set, if_neg (by omega), List.getElem?_set, if_neg (by omega), List.getElem?_set, if_pos rfl, if_pos (by omega)]
    · rw [stubW_eq, List.getElem?_set, if_neg (by omega), List.getElem?_set, if_neg (by omega), List.getElem?_set, if_neg (by omega)]; exact h1.id
  · exact h1
def putW (l : List NodeC) : List Int := l.flatMap nodeW
def offW (l : List NodeC) (j : Nat) : Nat := (putW (l.take j)).length
theorem putW_snoc {l : List NodeC} {k : Nat} {n : NodeC} (h : l[k]? = some n) : putW (l.take (k + 1)) = putW (l.take k) ++ nodeW n := by
  unfold putW
  rw [List.take_add_one, h, List.flatMap_append]
  simp
theorem offW_succ {l : List NodeC} {k : Nat} {n : NodeC} (h : l[k]? = some n) : offW l (k + 1) = offW l k + (hdN n).sz := by
  unfold offW
  rw [putW_snoc h, List.length_append, nodeW_len]
theorem offW_mono {l : List NodeC} : ∀ {i j : Nat}, i ≤ j → offW l i ≤ offW l j := fun {i j} h => by
  induction j with
  | zero =>
    have h0 : i = 0 := by omega
    rw [h0]
    exact Nat.le_refl _
  | succ j ih =>
    rcases Nat.lt_or_ge i (j + 1) with h1 | h1
    · refine Nat.le_trans (ih (by omega)) ?_
      cases hj : l[j]? with
      | none =>
        have := List.getElem?_eq_none_iff.1 hj
        unfold offW
        rw [List.take_of_length_le this, List.take_of_length_le (by omega)]
        exact Nat.le_refl _
      | some n => rw [offW_succ hj]; omega
    · obtain rfl : i = j + 1 := by omega
      exact Nat.le_refl _
theorem putW_obj {l : List NodeC} (hv : ∀ n ∈ l, NodeOk n) {j : Nat} {n : NodeC} (h : l[j]? = some n) : ObjAt (putW l) (offW l j) (hdF n) n.id := by
  have hj := (List.getElem?_eq_some_iff.1 h).1
  have hs : putW l = putW (l.take j) ++ (nodeW n ++ putW (l.drop (j + 1))) := by
    rw [← List.append_assoc, ← putW_snoc h]
    unfold putW
    rw [← List.flatMap_append, List.take_append_drop]
  rw [hs]
  have := (nodeW_obj (hv n (List.mem_of_getElem? h))).within (a := putW (l.take j)) (c := putW (l.drop (j + 1)))
  rwa [Nat.add_zero] at this
theorem putW_bound : ∀ (l : List NodeC), (putW l).length ≤ 4 * (l.length + (l.map fun n => n.fields.length).sum)
  | [] => by simp [putW]
  | n :: l => by
    have ih := putW_bound l
    unfold putW at ih ⊢
    rw [List.flatMap_cons, List.length_append, nodeW_len, hdN_sz, List.length_cons, List.map_cons, List.sum_cons]
    omega
theorem ObjAt.set {ws : List Int} {k : Nat} {h : HdE} {x : IDE} (H : ObjAt ws k h x) {p : Nat} (v : Int) (h1 : p ≠ k) (h2 : p ≠ k + 1) : ObjAt (ws.set p v) k h x :=
  ⟨by rw [List.getElem?_set, if_neg h1]; exact H.hd, by rw [List.getElem?_set, if_neg h2]; exact H.id, by rw [List.length_set]; exact H.le, H.ok, H.ok'⟩
/-- The objects of a graph stand where they were put. -/
def Objs (l : List NodeC) (ws : List Int) : Prop := ∀ j n, l[j]? = some n → ObjAt ws (offW l j) (hdF n) n.id
theorem Objs.set {l : List NodeC} {ws : List Int} (H : Objs l ws) {i m : Nat} {n : NodeC} (hn : l[i]? = some n) (hm : m < n.fields.length) (v : Int) : Objs l (ws.set (offW l i + 2 + m) v) := fun j y hy => by
  have hsz : (hdN n).sz = 2 + max n.fields.length 2 := hdN_sz n
  have hs := offW_succ hn
  have hs2 := offW_succ hy
  have h4 := (hdN y).sz_two
  refine (H j y hy).set v ?_ ?_
  all_goals
    rcases Nat.lt_trichotomy i j with h | h | h
    · have := offW_mono (l := l) (show i + 1 ≤ j by omega); omega
    · subst h; omega
    · have := offW_mono (l := l) (show j + 1 ≤ i by omega); omega
/-- The place of an identity. -/
def idxC (l : List NodeC) (x : IDE) : Nat := (l.findIdx? fun n => decide (n.id = x)).getD 0
theorem idxC_hit {l : List NodeC} {x : IDE} {j : Nat} {n : NodeC} (hn : l[j]? = some n) (hx : n.id = x) (hno : ∀ i m, i < j → l[i]? = some m → m.id ≠ x) : idxC l x = j := by
  unfold idxC
  have : (l.findIdx? fun n => decide (n.id = x)) = some j := by
    rw [List.findIdx?_eq_some_iff_getElem]
    obtain ⟨hlt, hg⟩ := List.getElem?_eq_some_iff.1 hn
    refine ⟨hlt, by rw [hg]; exact decide_eq_true hx, fun i hi => ?_⟩
    have := hno i l[i] hi (List.getElem?_eq_getElem (by omega))
    simp [this]
  rw [this]; rfl
/-- The word of a field. -/
def fldW (l : List NodeC) (v : ValE) : Int := if v.kind = 1 then encN v.int else if v.kind = 2 then adW (offW l (idxC l v.ref)) else 0
/-- The words when m fields of node i have been set. -/
def setN (l : List NodeC) (ws : List Int) (i : Nat) (fs : List ValE) : Nat → List Int
  | 0 => ws
  | m + 1 => (setN l ws i fs m).set (offW l i + 2 + m) (fldW l (fs.getD m ⟨0, 0, 0, 0⟩))
def setG (l : List NodeC) : Nat → List Int
  | 0 => putW l
  | i + 1 => setN l (setG l i) i (l.getD i ⟨0, 0, 0, 0, []⟩).fields (l.getD i ⟨0, 0, 0, 0, []⟩).fields.length
theorem setN_len (l : List NodeC) (ws : List Int) (i : Nat) (fs : List ValE) : ∀ m, (setN l ws i fs m).length = ws.length
  | 0 => rfl
  | m + 1 => by unfold setN; rw [List.length_set]; exact setN_len l ws i fs m
theorem setG_len (l : List NodeC) : ∀ i, (setG l i).length = (putW l).length
  | 0 => rfl
  | i + 1 => by unfold setG; rw [setN_len]; exact setG_len l i
theorem setN_objs {l : List NodeC} {ws : List Int} (H : Objs l ws) {i : Nat} {n : NodeC} (hn : l[i]? = some n) : ∀ m, m ≤ n.fields.length → Objs l (setN l ws i n.fields m)
  | 0, _ => H
  | m + 1, hm => (setN_objs H hn m (by omega)).set hn (by omega) _
theorem setG_objs {l : List NodeC} (hv : ∀ n ∈ l, NodeOk n) : ∀ i, i ≤ l.length → Objs l (setG l i)
  | 0, _ => fun j n hn => putW_obj hv hn
  | i + 1, hi => by
    have ih := setG_objs hv i (by omega)
    have hn := List.getElem?_eq_getElem (l := l) (i := i) (by omega)
    have hd : l.getD i ⟨0, 0, 0, 0, []⟩ = l[i] := by rw [List.getD_eq_getElem?_getD, hn]; rfl
    unfold setG
    rw [hd]
    exact setN_objs ih hn _ (Nat.le_refl _)
theorem idxC_mem {l : List NodeC} {x : IDE} (h : ∃ n ∈ l, n.id = x) : ∃ n, l[idxC l x]? = some n ∧ n.id = x := by
  unfold idxC
  obtain ⟨n, hn, hx⟩ := h
  cases hj : l.findIdx? (fun n => decide (n.id = x)) with
  | none =>
    rw [List.findIdx?_eq_none_iff] at hj
    exact absurd hx (of_decide_eq_false (hj n hn))
  | some j =>
    obtain ⟨hlt, h1, -⟩ := List.findIdx?_eq_some_iff_getElem.1 hj
    exact ⟨l[j], List.getElem?_eq_getElem hlt, of_decide_eq_true h1⟩
theorem fldW_val {l : List NodeC} (hv : ∀ n ∈ l, NodeOk n) {ws : List Int} (H : Objs l ws) {v : ValE} (hr : v.kind = 2 → ∃ n ∈ l, n.id = v.ref) : ValW ws (fldW l v) := by
  unfold fldW
  split
  · exact .inl ⟨(encN_ok _).1, .inr (encN_ok _).2⟩
  · split
    · next h2 =>
      obtain ⟨n, hn, -⟩ := idxC_mem (hr h2)
      exact .inr ⟨_, _, _, rfl, H _ n hn, (hdF_ok (hv n (List.mem_of_getElem? hn))).2⟩
    · exact .inl ⟨by unfold WordOk; omega, .inl rfl⟩
end Go.Proofs.YtjegncmkebbdfaaGreatDoor

namespace Go.Proofs.YtjegncmkebbdfaaGreatDoor
open Go.RowKit
attribute [local simp] heap_drew
set_option maxHeartbeats 2000000 in
theorem spnew0_any (w : World) : Calls Tryz.prog 117 #[.int .i64 0, .int .i64 5000] w fun r w' => ∃ g, r = .returned (.pointer (some ⟨g, 0, none⟩)) ∧ SpAt w' g 0 5000 (.slice none 0 0) ∧ w.heap.size ≤ g ∧ Below w.heap.size w w' := by
  go_enter Tryz.func117, Tryz.ntmps117
  go_wp2_with fail
  go_ret
  exact ⟨w.heap.size, rfl, heap_alloc_new _ _, Nat.le_refl _, below_of⟩
set_option maxHeartbeats 2000000 in
theorem spnewY_any (w : World) : Calls Tryz.prog 117 #[.int .i64 16777216, .int .i64 16782216] w fun r w' => ∃ g, r = .returned (.pointer (some ⟨g, 0, none⟩)) ∧ SpAt w' g 16777216 16782216 (.slice none 0 0) ∧ w.heap.size ≤ g ∧ Below w.heap.size w w' := by
  go_enter Tryz.func117, Tryz.ntmps117
  go_wp2_with fail
  go_ret
  exact ⟨w.heap.size, rfl, heap_alloc_new _ _, Nat.le_refl _, below_of⟩
set_option maxRecDepth 100000 in
set_option maxHeartbeats 4000000 in
theorem onew_any (w : World) : Calls Tryz.prog 63 #[.int .i64 5000] w fun r w' => ∃ gO gY, r = .returned (.agg #[.pointer (some ⟨gO, 0, none⟩), .pointer (some ⟨gY, 0, none⟩)]) ∧ SpAt w' gO 0 5000 (.slice none 0 0) ∧ SpAt w' gY 16777216 16782216 (.slice none 0 0) ∧ w.heap.size ≤ gO ∧ w.heap.size ≤ gY ∧ Below w.heap.size w w' := by
  have HS : ∀ (b l : Int) (u : World), (b = 0 ∧ l = 5000) ∨ (b = 16777216 ∧ l = 16782216) → Calls Tryz.prog 117 #[.int .i64 b, .int .i64 l] u fun r w' => ∃ g, r = .returned (.pointer (some ⟨g, 0, none⟩)) ∧ SpAt w' g b l (.slice none 0 0) ∧ u.heap.size ≤ g ∧ Below u.heap.size u w' := by
    rintro b l u (⟨rfl, rfl⟩ | ⟨rfl, rfl⟩)
    · exact spnew0_any u
    · exact spnewY_any u
  go_enter Tryz.func63, Tryz.ntmps63
  go_upto_region 1 with fail
  refine wp_name ?_
  intro w0 hw0
  obtain ⟨B0, l0⟩ := box1 hw0
  have lw0 : Later w w0 := l0 w
  have l00 : Later w0 w0 := Later.refl
  clear hw0
  go_wp2_with (go_at_call 117
               refine (HS _ _ _ (by first | exact .inl ⟨rfl, rfl⟩ | exact .inr ⟨rfl, rfl⟩)).mono ?_
               first
                 | (have := hO1; rintro r w2 ⟨gY, rfl, hY2, zY, hb2⟩; have l2 := later hb2)
                 | (rintro r w1 ⟨gO, rfl, hO1, zO, hb1⟩; have l1 := later hb1))
  have l01 : Later w0 w1 := ⟨below_of⟩
  have l12 : Later w1 w2 := ⟨hb2⟩
  have hz0 := blk_lt (B0 w0).1
  have hz1 := l01.below.size
  have hz2 := hb2.size
  have hO2 := hO1.below hb2
  have lw2 : Later w w2 := lw0.trans (l01.trans l12)
  have l22 : Later w2 w2 := Later.refl
  have B2 := boxed (B0 w2).1
  generalize hw9 : World.setCell (World.setCell _ _ _) _ _ = w9
  have B9 := boxed_set2 B0 hw9
  have hb9 : Below w.heap.size w w9 := by rw [← hw9]; exact (lw2.below.setCell (p := ⟨w.heap.size, 0, none⟩) (Nat.le_refl _) _).setCell (p := ⟨w.heap.size, 1, none⟩) (Nat.le_refl _) _
  have hO9 : SpAt w9 gO 0 5000 (.slice none 0 0) := by
    rw [← hw9]
    exact (blk_far (p := ⟨w.heap.size, 1, none⟩) (by show gO ≠ w.heap.size; omega) _).trans ((blk_far (p := ⟨w.heap.size, 0, none⟩) (by show gO ≠ w.heap.size; omega) _).trans hO2)
  have hY9 : SpAt w9 gY 16777216 16782216 (.slice none 0 0) := by
    rw [← hw9]
    exact (blk_far (p := ⟨w.heap.size, 1, none⟩) (by show gY ≠ w.heap.size; omega) _).trans ((blk_far (p := ⟨w.heap.size, 0, none⟩) (by show gY ≠ w.heap.size; omega) _).trans hY2)
  clear hw9
  have l99 : Later w9 w9 := Later.refl
  have r0 := ((B9 w9).2 0).1
  have r1 := ((B9 w9).2 1).1
  refine bodyPost_ret (v := .agg #[.pointer (some ⟨gO, 0, none⟩), .pointer (some ⟨gY, 0, none⟩)]) (by simp [results, Tryz.results63, go_sem, r0, r1]) rfl ⟨gO, gY, rfl, hO9, hY9, by omega, by omega, hb9⟩
set_option maxHeartbeats 2000000 in
theorem cnew_any (w : World) : Calls Tryz.prog 64 #[] w fun r w' => ∃ g, r = .returned (.pointer (some ⟨g, 0, none⟩)) ∧ Below w.heap.size w w' := by
  have hmm := @run_makeMap Tryz.prog
  go_enter Tryz.func64, Tryz.ntmps64
  go_wp2_with fail
  go_ret
  exact ⟨_, rfl, below_of⟩
set_option maxHeartbeats 2000000 in
theorem hnew_any (w : World) : Calls Tryz.prog 66 #[] w fun r w' => ∃ g, r = .returned (.pointer (some ⟨g, 0, none⟩)) ∧ Below w.heap.size w w' := by
  have hmm := @run_makeMap Tryz.prog
  go_enter Tryz.func66, Tryz.ntmps66
  go_wp2_with fail
  go_ret
  exact ⟨_, rfl, below_of⟩
set_option maxHeartbeats 2000000 in
theorem unew_any (w : World) : Calls Tryz.prog 65 #[] w fun r w' => ∃ g, r = .returned (.pointer (some ⟨g, 0, none⟩)) ∧ w'.heap[g]? = some (.cells #[.bool false, .int .i64 0, .slice none 0 0] 170 (0, 0)) ∧ w.heap.size ≤ g ∧ Below w.heap.size w w' := by
  go_enter Tryz.func65, Tryz.ntmps65
  go_wp2_with fail
  go_ret
  exact ⟨w.heap.size, rfl, heap_alloc_new _ _, Nat.le_refl _, below_of⟩
set_option maxRecDepth 100000 in
set_option maxHeartbeats 4000000 in
theorem heapNew_any (w : World) : Calls Tryz.prog 32 #[.int .i64 5000] w fun r w' => ∃ P, r = .returned (.pointer (some ⟨P.gh, 0, none⟩)) ∧ HpAt w.heap.size w' P ∧ P.M.ws = [] ∧ P.M.A = none ∧ w.heap.size ≤ P.M.gY ∧ Below w.heap.size w w' := by
  have HO := fun u : World => onew_any u
  have HC := fun u : World => cnew_any u
  have HU := fun u : World => unew_any u
  have HH := fun u : World => hnew_any u
  have lww : Later w w := Later.refl
  go_enter Tryz.func32, Tryz.ntmps32
  go_wp2_with (first
    | (go_at_call 63; refine (HO _).mono ?_; rintro r w1 ⟨gO, gY, rfl, hO1, hY1, zO, zY, hb1⟩; have l1 := later hb1)
    | (go_at_call 64; refine (HC _).mono ?_; rintro r w2 ⟨gC, rfl, hb2⟩; have l2 := later hb2)
    | (go_at_call 65; refine (HU _).mono ?_; rintro r w3 ⟨gL, rfl, hL3, zL, hb3⟩; have l3 := later hb3)
    | (go_at_call 66; refine (HH _).mono ?_; rintro r w4 ⟨gH, rfl, hb4⟩; have l4 := later hb4))
  go_ret
  have hb12 := hb2
  have hz1 := hb1.size
  have hz2 := hb2.size
  have hz3 := hb3.size
  have b14 : Below w1.heap.size w1 w4 := hb2.trans ((hb3.mono hz2).trans (hb4.mono (by omega)))
  have b34 := hb4
  have lw4 : Later w w4 := ⟨hb1.trans (b14.mono hz1)⟩
  refine ⟨⟨w4.heap.size, gC, gL, gH, ⟨gO, gY, none, 0, []⟩⟩, rfl, ⟨heap_alloc_new _ _, blk_below (blk_below hL3 hb4) (by repeat (first | with_reducible exact Below.refl _ _ | (with_reducible refine Below.drew ?_) | (with_reducible refine below_drewN ?_ _) | (with_reducible refine Below.alloc ?_ ?_ _; rotate_left; (first | omega | (simp <;> omega))) | (with_reducible refine Below.setCell ?_ ?_ _; rotate_left; (first | omega | (simp <;> omega))))), ⟨(hO1.below b14).below (by repeat (first | with_reducible exact Below.refl _ _ | (with_reducible refine Below.drew ?_) | (with_reducible refine below_drewN ?_ _) | (with_reducible refine Below.alloc ?_ ?_ _; rotate_left; (first | omega | (simp <;> omega))) | (with_reducible refine Below.setCell ?_ ?_ _; rotate_left; (first | omega | (simp <;> omega))))), (hY1.below b14).below (by repeat (first | with_reducible exact Below.refl _ _ | (with_reducible refine Below.drew ?_) | (with_reducible refine below_drewN ?_ _) | (with_reducible refine Below.alloc ?_ ?_ _; rotate_left; (first | omega | (simp <;> omega))) | (with_reducible refine Below.setCell ?_ ?_ _; rotate_left; (first | omega | (simp <;> omega))))), ⟨Nat.le_refl _, Own.nil⟩, by show (0 : Nat) ≤ 5000; decide⟩⟩, rfl, rfl, zY, lw4.below.alloc lw4.below.size _⟩
end Go.Proofs.YtjegncmkebbdfaaGreatDoor

namespace Go.Proofs.YtjegncmkebbdfaaGreatDoor
open Go.RowKit
attribute [local simp] heap_drew
attribute [local go_sem ↓] run_eql_id run_neq_id
theorem make_w64 (w : World) (N : Nat) (hN : N ≤ 1000000) : (Instr.makeSlice 38 (.int .i64 N) (.int .i64 N)).run Tryz.prog w = .ok (.slice (some ⟨w.heap.size, 0, none⟩) N N) (w.alloc (.cells (Array.replicate N (.int .u64 0)) 34)) := by
  obtain ⟨i, h1, h2, h3, h4⟩ := info_parts info_u64
  have h := run_make (P := Tryz.prog) w 38 34 i _ under_u64s h1 h2 .i64 .i64 (N : Int) (N : Int) (by omega) (by omega) (by rw [h4]; omega) (by omega)
  rw [Int.toNat_natCast, h3, Nat.mul_one] at h
  have e : madeCells (Value.int .u64 0).cells N = Array.replicate N (Value.int .u64 0) := by
    apply Array.ext
    · simp [madeCells]
    · intro j h6 h7
      simp [madeCells, Value.cells, Nat.mod_one]
  rw [e] at h
  exact h
abbrev hpW (P : HpE) (A : Option Addr) (c : Nat) (ws : List Int) : HpE := { P with M := ⟨P.M.gO, P.M.gY, A, c, ws⟩ }
theorem HpAt.frame {base : Nat} {w w' : World} {P : HpE} {s : Nat → Prop} (H : HpAt base w P) (O : Only s w w') (h1 : ¬ s P.gh) (h2 : ¬ s P.gL) (h3 : ¬ s P.M.gO) (h4 : ¬ s P.M.gY) (h5 : ∀ j, memS P.M j → ¬ s j) : HpAt base w' P :=
  ⟨O.boxed H.hd h1, O.boxed H.log h2, ⟨O.boxed H.mem.old h3, O.boxed H.mem.young h4, ⟨H.mem.words.le, O.own H.mem.words.own (fun g hg => h5 g (by
    rcases H.mem.words.own.form with ⟨hv, -⟩ | ⟨g', cap, hv, -⟩
    · rw [hv] at hg; cases hg
    · injection hv with hv
      unfold memS
      rw [hv] at hg ⊢
      have hg' : some g' = some g := hg
      injection hg' with hg'
      rw [hg']))⟩, H.mem.len⟩⟩
theorem HpAt.base {base b' : Nat} {w : World} {P : HpE} (H : HpAt base w P) (h : b' ≤ base) : HpAt b' w P := ⟨H.hd, H.log, ⟨H.mem.old, H.mem.young, ⟨H.mem.words.le, H.mem.words.own.mono h⟩, H.mem.len⟩⟩
/-- The list of the words of the nodes. -/
def atL (L : List NodeC) (k : Nat) : List Int := (List.range k).map fun j => adW (offW L j)
theorem atL_len (L : List NodeC) (k : Nat) : (atL L k).length = k := by unfold atL; rw [List.length_map, List.length_range]
theorem atL_succ (L : List NodeC) (k : Nat) : atL L (k + 1) = atL L k ++ [adW (offW L k)] := by unfold atL; rw [List.range_succ, List.map_append]; rfl
structure PutI (L : List NodeC) (P : HpE) (w0 wr : World) (k : Nat) (A : Option Addr) (c : Nat) (AA : Option Addr) (ac : Nat) (ws : List Int) (n : Nat) : Prop where
  hp : HpAt w0.heap.size wr (hpW P A c ws)
  own : Own W64.cells 1 34 w0.heap.size wr (.slice AA n ac) (atL L n)
  ap : ∀ j, A = some ⟨j, 0, none⟩ → AA ≠ some ⟨j, 0, none⟩
  bl : Below w0.heap.size w0 wr
theorem PutI.below {L : List NodeC} {P : HpE} {w0 wr w' : World} {k : Nat} {A : Option Addr} {c : Nat} {AA : Option Addr} {ac : Nat} {ws : List Int} {n : Nat} (h : PutI L P w0 wr k A c AA ac ws n) (hb : Below wr.heap.size wr w') : PutI L P w0 w' k A c AA ac ws n := ⟨h.hp.below hb, h.own.below hb, h.ap, h.bl.trans (hb.mono h.bl.size)⟩
theorem hown_block {α : Type} {f : α → List Value} {s : Nat} {e : TypeId} {base : Nat} {w : World} {A : Option Addr} {n c : Nat} {l : List α} (h : Own f s e base w (.slice A n c) l) {j : Nat} (hj : (Value.slice A n c).ownBlock = some j) : A = some ⟨j, 0, none⟩ := by
  rcases h.form with ⟨hv, -⟩ | ⟨g', cap, hv, -⟩
  · rw [hv] at hj; cases hj
  · injection hv with hv
    rw [hv] at hj ⊢
    have hj' : some g' = some j := hj
    injection hj' with hj'
    rw [hj']
theorem ne_types {w : World} {a b : Nat} {cs cs' : Array Value} {t t' : TypeId} {fr fr' : Nat × Nat} (h1 : w.heap[a]? = some (.cells cs t fr)) (h2 : w.heap[b]? = some (.cells cs' t' fr')) (ht : t ≠ t') : a ≠ b := fun e => by
  subst e
  rw [h1] at h2
  injection h2 with h2
  injection h2 with _ h2 _
  exact ht h2
/-- What Alloc may change. -/
def alS (P : HpE) (A : Option Addr) (j : Nat) : Prop := j = P.M.gY ∨ A = some ⟨j, 0, none⟩
theorem alS_not {base : Nat} {w : World} {P : HpE} {A : Option Addr} {c : Nat} {ws : List Int} (H : HpAt base w (hpW P A c ws)) {j : Nat} {cs : Array Value} {t : TypeId} {fr : Nat × Nat} (hj : w.heap[j]? = some (.cells cs t fr)) (h1 : t ≠ 179) (h2 : 34 ≠ t) : ¬ alS P A j := by
  rintro (e | e)
  · exact ne_types hj (show w.heap[P.M.gY]? = _ from H.mem.young) h1 e
  · exact H.mem.notS hj h2 e
end Go.Proofs.YtjegncmkebbdfaaGreatDoor

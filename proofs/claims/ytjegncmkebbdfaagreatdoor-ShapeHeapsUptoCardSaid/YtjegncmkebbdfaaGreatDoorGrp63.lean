/-
  Small texts of this seat, put into one. Conditions stand in each theorem.
-/
import Derived.Test.YtjegncmkebbdfaaGreatDoorGrp62
import Derived.Test.YtjegncmkebbdfaaGreatDoorGrp56
import Derived.Test.YtjegncmkebbdfaaGreatDoorGrp66
import Derived.Deep.RegionHeld3
set_option linter.unusedSimpArgs false
set_option linter.unusedVariables false
namespace Go.Proofs.YtjegncmkebbdfaaGreatDoor
open Go.RowKit
attribute [local simp] heap_drew
/-- The own list before and behind the append. -/
def appG {α : Type} (f : α → List Value) (s : Nat) (e : TypeId) (base : Nat) (q : List α) (x : α) (OA : Option Addr) (OC : Nat) (b : Bool) (v : Value) (u : World) : Prop :=
  match b with
  | true => ∃ A' c', v = .slice A' (q.length + 1) c' ∧ Own f s e base u (.slice A' (q.length + 1) c') (q ++ [x])
  | false => Own f s e base u (.slice OA q.length OC) q
theorem appG_mono {α : Type} (f : α → List Value) (s : Nat) (e : TypeId) (base : Nat) (q : List α) (x : α) (OA : Option Addr) (OC : Nat) : ∀ b v w w', Later w w' → appG f s e base q x OA OC b v w → appG f s e base q x OA OC b v w' := fun b v w w' l h => by
  cases b with
  | true =>
    obtain ⟨A', c', h1, h2⟩ := h
    exact ⟨A', c', h1, h2.below l.below⟩
  | false => exact Own.below h l.below
/-- A box that holds an own list of words. -/
def WBox (gB base : Nat) (q : List Int) (w : World) : Prop := ∃ A c, w.heap[gB]? = some (.cells #[.slice A q.length c] 38 (0, 0)) ∧ Own W64.cells 1 34 base w (.slice A q.length c) q
/-- What an append to it may change: the box and rows of words from base on. -/
structure KW (gB base : Nat) (w w' : World) : Prop where
  b : Below base w w'
  k : ∀ (k : Nat) (cs : Array Value) (t : TypeId), w.heap[k]? = some (.cells cs t (0, 0)) → k ≠ gB → (k < base ∨ t ≠ 34) → w'.heap[k]? = some (.cells cs t (0, 0))
theorem KW.trans {gB base : Nat} {a b c : World} (h : KW gB base a b) (k : KW gB base b c) : KW gB base a c := ⟨h.b.trans k.b, fun j cs t hj h1 h2 => k.k j cs t (h.k j cs t hj h1 h2) h1 h2⟩
theorem KW.of_below {gB base : Nat} {w w' : World} (h : Below w.heap.size w w') (hB : base ≤ w.heap.size) : KW gB base w w' := ⟨h.mono hB, fun _ _ _ hk _ _ => blk_below hk h⟩
theorem WBox.below {gB base : Nat} {q : List Int} {w w' : World} (h : WBox gB base q w) (hb : Below w.heap.size w w') : WBox gB base q w' := by
  obtain ⟨A, c, h1, h2⟩ := h
  exact ⟨A, c, blk_below h1 hb, h2.below hb⟩
set_option maxRecDepth 100000 in
set_option maxHeartbeats 8000000 in
theorem objs1_any {gB base : Nat} (x : Int) (q : List Int) (w3 : World) (H : WBox gB base q w3) (hgB : base ≤ gB) (hz3 : base ≤ w3.heap.size) (h0 : 0 ≤ x) (h1 : x ≤ 4294967295) (hl : q.length ≤ 5000) :
    Calls Tryz.prog 87 #[.int .i64 x, .pointer (some ⟨gB, 0, none⟩)] w3 fun r w' => r = .returned (.tuple #[]) ∧ WBox gB base (q ++ [x * 4 + 2]) w' ∧ KW gB base w3 w' := by
  have HA := fun u : World => at_any x u h0 h1
  obtain ⟨y, hy⟩ : ∃ y, y = x * 4 + 2 := ⟨_, rfl⟩
  rw [← hy]
  simp only [← hy] at HA
  clear hy h0 h1
  obtain ⟨OA, OC, bO3, hfo3⟩ := H
  obtain ⟨row, hrowe⟩ : ∃ r, r = (Value.slice OA q.length OC).ownBlock := ⟨_, rfl⟩
  have hrow : ∀ k, row = some k → k < w3.heap.size := fun k hk => (World.ownsRow.lt hfo3 k (hrowe ▸ hk)).2
  have hOld : ∀ u, w3.drew.grownBy u row → ∀ (k : Nat) (cs : Array Value) (t : TypeId), w3.heap[k]? = some (.cells cs t (0, 0)) → 34 ≠ t → u.heap[k]? = some (.cells cs t (0, 0)) := fun u hu k cs t hk ht => (hu.block k (blk_lt hk) (fun e => own_off hfo3 hk ht (by rw [← hrowe]; exact e.symm))).trans hk
  have HO : ∀ u, w3.drew.grownBy u row → u.heap[gB]? = _ := fun u hu => hOld u hu _ _ _ bO3 (by decide)
  go_enter Tryz.func87, Tryz.ntmps87
  refine wp_region_invA (last := 5) (ap := 4) (row := row) (by kernel_rfl) (R := specRA [.is (.slice OA q.length OC), .is (.int .i64 x), .is (.int .u64 y), SpecA.blk hrow (fun g => .slice (some ⟨g, 0, none⟩) 1 1) #[.int .u64 y] 34, .any]) (J := appG W64.cells 1 34 base q y OA OC) (specRA_mono (B := w3.heap.size) (row := row) _) (appG_mono _ _ _ _ _ _ _ _) (by kernel_rfl) (by kernel_rfl) (by kernel_rfl) (Own.below hfo3 (Below.refl _ _).drew) (steps_all ?_) ?_ ?_ (fun h => absurd h (by decide))
  · refine ⟨?_, ?_, ?_, ?_, ?_, ?_, trivial⟩
    · intro hne hne2 a u lu hN hO K hK
      (try simp only [Nat.zero_add, Nat.reduceAdd] at hN hK)
      have e0 : a.tmps.getD 1 undef = .pointer (some ⟨gB, 0, none⟩) := (hO 1 (out_get (by kernel_rfl))).trans rfl
      simp only [Array.getD_eq_getD_getElem?] at e0
      have X := boxed (HO u lu)
      have luu : Later u u := Later.refl
      rw [if_pos (by rfl)]
      go_simp
      exact hK _ _ Later.refl rfl
    · intro hne hne2 a u lu hN hO K hK
      (try simp only [Nat.zero_add, Nat.reduceAdd] at hN hK)
      have e0 : a.tmps.getD 0 undef = .int .i64 x := (hO 0 (out_get (by kernel_rfl))).trans rfl
      simp only [Array.getD_eq_getD_getElem?] at e0
      rw [if_pos (by rfl)]
      go_simp
      exact hK _ _ Later.refl rfl
    · intro hne hne2 a u lu hN hO K hK
      (try simp only [Nat.zero_add, Nat.reduceAdd] at hN hK)
      have e0 : a.tmps.getD 4 undef = .int .i64 x := hN 1 (needs_get (by kernel_rfl))
      simp only [Array.getD_eq_getD_getElem?] at e0
      rw [if_pos (by rfl)]
      go_simp
      refine (HA u).mono ?_
      rintro q u' ⟨rfl, hb⟩
      exact hK _ _ ⟨hb⟩ rfl
    · intro hne hne2 a u lu hN hO K hK
      (try simp only [Nat.zero_add, Nat.reduceAdd] at hN hK)
      have e0 : a.tmps.getD 5 undef = .int .u64 y := hN 2 (needs_get (by kernel_rfl))
      simp only [Array.getD_eq_getD_getElem?] at e0
      rw [if_pos (by rfl)]
      go_simp
      exact hK _ _ inferInstance ⟨u.heap.size, lu.size, rfl, heap_alloc_new _ _⟩
    · intro hne hne2 a u lu hN hO K hK
      (try simp only [Nat.zero_add, Nat.reduceAdd] at hN hK)
      exact absurd rfl hne2
    · intro hne hne2 a u lu hN hO K hK
      (try simp only [Nat.zero_add, Nat.reduceAdd] at hN hK)
      exact absurd rfl hne
  · intro op hop
    simp only [List.getElem?_toArray, List.getElem?_cons_succ, List.getElem?_cons_zero] at hop
    injection hop with hop
    subst hop
    intro a u lu hst hN hO K hK
    have e1 : a.tmps.getD 3 undef = .slice OA (q).length OC := hN 0 (needs_get (by kernel_rfl))
    obtain ⟨gq, hgB, e4, hq⟩ : ∃ g, w3.heap.size ≤ g ∧ a.tmps.getD 6 undef = .slice (some ⟨g, 0, none⟩) 1 1 ∧ u.heap[g]? = some (.cells #[.int .u64 y] 34 (0, 0)) := hN 3 (needs_get (by kernel_rfl))
    refine step_app2 (P := Tryz.prog) rfl (.tmp 3) (.tmp 6) (by rfl) W64.enc w64T _ _ [y] (q) (.slice OA (q).length OC) e1 e4 (m := 1) (n := (q).length + 1) rfl rfl hst (blk_slAt W64.enc (fr := (0, 0)) (e := 34) hq [y] rfl) (by omega) (by unfold maxLen; omega) (Nat.le_trans hz3 lu.size) ?_
    intro A' c' u' ho' hm' hst'
    exact hK _ u' (by rw [hrowe]; exact hst'.1) trivial ⟨A', c', rfl, ho'⟩
  intro op hop a u hI K hK
  simp only [List.getElem?_toArray, List.getElem?_cons_succ, List.getElem?_cons_zero] at hop
  injection hop with hop
  subst hop
  have e6 : a.tmps.getD 1 undef = .pointer (some ⟨gB, 0, none⟩) := (hI.out 1 (out_get (by kernel_rfl))).trans rfl
  obtain ⟨A', c', e5, ho5⟩ : ∃ A' c', a.tmps.getD 7 undef = .slice A' (q.length + 1) c' ∧ Own W64.cells 1 34 base u (.slice A' (q.length + 1) c') (q ++ [y]) := hI.st
  have hgu := hI.grown
  have hdf : a.defers = [] := hI.defers.trans rfl
  have luu : Later u u := Later.refl
  have bOu := HO u hgu
  have XO := boxed bOu
  simp only [Array.getD_eq_getD_getElem?] at e5 e6
  rw [if_pos (by rfl)]
  go_simp
  refine hK _ _ ?_
  have hb : Below base w3 u := (Below.refl base w3).drew.grown hgu (by exact hz3) fun k hk => (World.ownsRow.lt hfo3 k (hrowe ▸ hk)).1
  refine ⟨hdf, _, results_none rfl _ _ _, rfl, ⟨A', c', ?_, ?_⟩, hb.setCell (p := ⟨gB, 0, none⟩) hgB _, fun k cs t hk hne ht => ?_⟩
  · have := blk_set bOu 0 (.slice A' (q.length + 1) c')
    rw [List.length_append, List.length_singleton]
    exact this
  · rw [List.length_append, List.length_singleton]
    exact ho5.far (p := ⟨gB, 0, none⟩) (own_off ho5 bOu (by decide)) _
  · refine (blk_far (p := ⟨gB, 0, none⟩) hne _).trans ((hgu.block k (blk_lt hk) fun e => ?_).trans hk)
    rcases ht with ht | ht
    · have := (World.ownsRow.lt hfo3 k (hrowe ▸ e.symm)).1
      omega
    · exact own_off hfo3 hk (fun e2 => ht e2.symm) (by rw [← hrowe]; exact e.symm)
end Go.Proofs.YtjegncmkebbdfaaGreatDoor

namespace Go.Proofs.YtjegncmkebbdfaaGreatDoor
open Go.RowKit
attribute [local simp] heap_drew
attribute [local go_sem] Instr.makeFunc
theorem KW.own {gB base : Nat} {w w' : World} (h : KW gB base w w') {α : Type} {f : α → List Value} {s b : Nat} {e : TypeId} {v : Value} {l : List α} (ho : Own f s e b w v l) (hb : gB < b) (hne : e ≠ 34) : Own f s e b w' v l := by
  refine ⟨ho.1, ?_⟩
  rcases ho.2 with h0 | ⟨g, cap, cur, hv, hg, hc, rest⟩
  · exact .inl h0
  · exact .inr ⟨g, cap, cur, hv, hg, h.k g cur e hc (by omega) (.inr hne), rest⟩
def adsL (off : Nat → Nat) (k : Nat) : List Int := (List.range k).map fun j => adW (off j)
theorem adsL_len (off : Nat → Nat) (k : Nat) : (adsL off k).length = k := by unfold adsL; rw [List.length_map, List.length_range]
theorem adsL_succ (off : Nat → Nat) (k : Nat) : adsL off (k + 1) = adsL off k ++ [adW (off k)] := by unfold adsL; rw [List.range_succ, List.map_append]; rfl
set_option maxRecDepth 100000 in
set_option maxHeartbeats 8000000 in
theorem heach_any {b0 gB : Nat} {P : HpE} {off : Nat → Nat} {N : Nat} {W0 : World} (w : World) (H : HpAt b0 W0 P) (R : RowObj P.M.ws off N) (hN : N ≤ 5000) (hK : ∀ j, j < N → ∃ h x, ObjAt P.M.ws (off j) h x ∧ h.kind ≠ 4) (hW : Below W0.heap.size W0 w) (HB : WBox gB W0.heap.size [] w) (hgB : W0.heap.size ≤ gB) :
    Calls Tryz.prog 86 #[spP P.gh, .func (.func 87) #[] #[.pointer (some ⟨gB, 0, none⟩)]] w fun r w' => r = .returned (.tuple #[]) ∧ WBox gB W0.heap.size (adsL off N) w' ∧ Below W0.heap.size W0 w' := by
  have hgBw : gB < w.heap.size := by obtain ⟨A, c, h1, -⟩ := HB; exact blk_lt h1
  have HS0 : ∀ u [Later W0 u], Calls Tryz.prog 137 #[spP P.M.gO] u (ObjPost 0 (fun _ => 0) 0 u) := fun u i => spObjects_any P.M.gO 0 5000 none 0 [] (fun _ => 0) 0 u (H.mem.old.below i.below) SlAt.nil (by simp) ⟨by decide, by decide, by simp⟩ ⟨rfl, rfl, fun j hj => absurd hj (by omega)⟩ (by omega)
  have HS1 : ∀ u [Later W0 u], Calls Tryz.prog 137 #[spP P.M.gY] u (ObjPost 16777216 off N u) := fun u i => by
    have hm := H.mem.below i.below
    exact spObjects_any P.M.gY 16777216 16782216 P.M.A P.M.c P.M.ws off N u hm.young hm.words.slAt hm.len hm.spin R hN
  have HHd : ∀ j, j < N → ∃ h : HdE, h.kind ≠ 4 ∧ ∀ u [Later W0 u], Calls Tryz.prog 89 #[P.M.v, .int .i64 (16777216 + (off j : Int))] u fun r w' => r = .returned (.tuple #[h.v, .int .i64 0]) ∧ Below u.heap.size u w' := fun j hj => by
    obtain ⟨h, x, ho, hk⟩ := hK j hj
    exact ⟨h, hk, fun u i => mheader_any _ (H.mem.below i.below) rfl ho⟩
  have HC : ∀ (j : Nat) (u : World), j < N → Below W0.heap.size W0 u → WBox gB W0.heap.size (adsL off j) u → Calls Tryz.prog 87 #[.int .i64 (16777216 + (off j : Int)), .pointer (some ⟨gB, 0, none⟩)] u fun r w' => r = .returned (.tuple #[]) ∧ WBox gB W0.heap.size (adsL off (j + 1)) w' ∧ KW gB W0.heap.size u w' := fun j u hj hu hB => by
    have h1 := R.le (show j ≤ N by omega)
    have h2 := H.mem.len
    rw [adsL_succ]
    exact objs1_any (16777216 + (off j : Int)) (adsL off j) u hB hgB hu.size (by omega) (by omega) (by rw [adsL_len]; omega)
  have B := boxed H.hd
  have lww : Later w w := Later.refl
  have l0w : Later W0 w := ⟨hW⟩
  have cx : ∀ u [Later W0 u], u.cell? ⟨P.gh, 1, none⟩ = some (.pointer (some ⟨P.M.gO, 0, none⟩)) ∧ u.cell? ⟨P.gh, 2, none⟩ = some (.pointer (some ⟨P.M.gY, 0, none⟩)) := fun u i => ⟨((B u).2 1).1, ((B u).2 2).1⟩
  obtain ⟨c1, c2⟩ := cx w
  clear H R hK
  go_enter Tryz.func86, Tryz.ntmps86
  go_upto_region 0 with fail
  go_region_held3 (fun w' => w'.cell? ⟨P.gh, 1, none⟩ = some (.pointer (some ⟨P.M.gO, 0, none⟩)) ∧ w'.cell? ⟨P.gh, 2, none⟩ = some (.pointer (some ⟨P.M.gY, 0, none⟩))) (exact cx _) (fail)
  go_wp2_with fail
  refine wp_name ?_
  intro w1 hw1
  have bS : w1.heap[w.heap.size]? = some (.cells #[spP P.M.gO, spP P.M.gY] 105 (0, 0)) := by rw [← hw1, heap_drew]; exact heap_alloc_new _ _
  have hb1 : Below w.heap.size w w1 := by rw [← hw1]; exact (by repeat (first | with_reducible exact Below.refl _ _ | (with_reducible refine Below.drew ?_) | (with_reducible refine below_drewN ?_ _) | (with_reducible refine Below.alloc ?_ ?_ _; rotate_left; (first | omega | (simp <;> omega))) | (with_reducible refine Below.setCell ?_ ?_ _; rotate_left; (first | omega | (simp <;> omega)))))
  clear hw1
  have hW1 : Below W0.heap.size W0 w1 := hW.trans (hb1.mono hW.size)
  have hB1 := HB.below hb1
  obtain ⟨gS, hgS⟩ : ∃ g, g = w.heap.size := ⟨_, rfl⟩
  rw [← hgS] at bS ⊢
  have hgSB : gB < gS := by omega
  clear hgS c1 c2 cx hb1 lww l0w HB
  go_loopw [22] (fun sv wr => ∃ s : Nat, s ≤ 2 ∧ sv = .int .i64 s ∧ WBox gB W0.heap.size (adsL off (if s = 2 then N else 0)) wr ∧ Below W0.heap.size W0 wr ∧ wr.heap[gS]? = some (.cells #[spP P.M.gO, spP P.M.gY] 105 (0, 0))) (fun sv _ => 2 - (intOf sv).toNat)
  case atStart => exact ⟨0, by omega, rfl, hB1, hW1, bS⟩
  clear hB1 hW1 bS
  case round =>
    obtain ⟨s, hs, rfl, hwr, hbr, hbS⟩ := hrel
    have lr : Later W0 wr := ⟨hbr⟩
    have lrr : Later wr wr := Later.refl
    have HBS := boxed hbS
    have hgSr := blk_lt hbS
    rcases (show s = 0 ∨ s = 1 ∨ s = 2 by omega) with rfl | rfl | rfl
    · rw [if_neg (by decide)] at hwr
      go_upto_region 4 with (go_at_call 137; refine (HS0 _).mono ?_; rintro r w4 ⟨A1, c1, rfl, ho4, hb4⟩; have l4 := later hb4)
      have hb4' : Below wr.heap.size wr w4 := below_of
      have hw4 := hwr.below hb4'
      have bS4 := blk_below hbS hb4'
      have hW4 : Below W0.heap.size W0 w4 := hbr.trans (hb4'.mono hbr.size)
      have ho4' := ho4.mono (show gB + 1 ≤ wr.heap.size by omega)
      clear ho4 hb4 l4 hb4' hwr hbS hbr lr lrr HBS
      go_loopw [29] (fun jv w' => ∃ j : Nat, j ≤ 0 ∧ jv = .int .i64 j ∧ WBox gB W0.heap.size (adsL (fun _ => 0) j) w' ∧ Below W0.heap.size W0 w' ∧ Own I64.cells 1 3 (gB + 1) w' (.slice A1 0 c1) ((List.range 0).map fun j => 0 + ((fun _ => 0) j : Int)) ∧ w'.heap[gS]? = some (.cells #[spP P.M.gO, spP P.M.gY] 105 (0, 0))) (fun jv _ => 0 - (intOf jv).toNat)
      case atStart => exact ⟨0, Nat.zero_le _, rfl, hw4, hW4, ho4', bS4⟩
      clear hw4 hW4 ho4' bS4
      case round =>
        obtain ⟨j, hj, rfl, hwr, hbr, -, hbS⟩ := hrel
        obtain rfl : j = 0 := by omega
        have lr : Later W0 wr := ⟨hbr⟩
        have lrr : Later wr wr := Later.refl
        go_wp2_with fail
        go_roundw
        case rel => exact ⟨1, by omega, by go_num, hwr, hbr, hbS⟩
        case measure => simp [intOf]
    · rw [if_neg (by decide)] at hwr
      go_upto_region 4 with (go_at_call 137; refine (HS1 _).mono ?_; rintro r w4 ⟨A1, c1, rfl, ho4, hb4⟩; have l4 := later hb4)
      have hb4' : Below wr.heap.size wr w4 := below_of
      have hw4 := hwr.below hb4'
      have bS4 := blk_below hbS hb4'
      have hW4 : Below W0.heap.size W0 w4 := hbr.trans (hb4'.mono hbr.size)
      have ho4' := ho4.mono (show gB + 1 ≤ wr.heap.size by omega)
      clear ho4 hb4 l4 hb4' hwr hbS hbr lr lrr HBS
      go_loopw [29] (fun jv w' => ∃ j : Nat, j ≤ N ∧ jv = .int .i64 j ∧ WBox gB W0.heap.size (adsL off j) w' ∧ Below W0.heap.size W0 w' ∧ Own I64.cells 1 3 (gB + 1) w' (.slice A1 N c1) ((List.range N).map fun j => 16777216 + (off j : Int)) ∧ w'.heap[gS]? = some (.cells #[spP P.M.gO, spP P.M.gY] 105 (0, 0))) (fun jv _ => N - (intOf jv).toNat)
      case atStart => exact ⟨0, Nat.zero_le _, rfl, hw4, hW4, ho4', bS4⟩
      clear hw4 hW4 ho4' bS4
      case round =>
        obtain ⟨j, hj, rfl, hwr, hbr, hown, hbS⟩ := hrel
        have lr : Later W0 wr := ⟨hbr⟩
        have lrr : Later wr wr := Later.refl
        have HBS := boxed hbS
        by_cases hlt : j < N
        · obtain ⟨h, hk4, HH⟩ := HHd j hlt
          obtain ⟨g1, rfl⟩ := hown.isSome (by intro e; have h9 := congrArg List.length e; rw [List.length_map, List.length_range] at h9; have h8 : ([] : List Int).length = 0 := rfl; omega)
          obtain ⟨av, hav⟩ : ∃ v : Int, v = 16777216 + (off j : Int) := ⟨_, rfl⟩
          have CA : ∀ u [Later wr u], u.cell? ⟨g1, j, none⟩ = some (.int .i64 av) := fun u i => by
            have := (hown.below i.below).cell IH.enc (k := j) (x := av) (by rw [List.getElem?_map, List.getElem?_range hlt, hav]; rfl) (j := 0) rfl
            simpa using this
          have HCj := HC j
          rw [← hav] at HH HCj
          have hji : (j : Int) < (N : Int) := by omega
          have hkb : (h.kind != 4) = true := by rw [bne_iff_ne]; exact hk4
          clear hav hk4 HHd
          go_upto_region 7 with (go_at_call 89; refine (HH _).mono ?_; rintro r w5 ⟨rfl, hb5⟩; have l5 := later hb5)
          refine wp_name ?_
          intro w6 hw6
          obtain ⟨B8, l6⟩ := box1 hw6
          clear hw6
          have l66 : Later w6 w6 := Later.refl
          have hb6 : Below wr.heap.size wr w6 := below_of
          have hw6 := hwr.below hb6
          have hW6 : Below W0.heap.size W0 w6 := hbr.trans (hb6.mono hbr.size)
          go_wp2_with (go_at_call 87; refine (HCj _ hlt hW6 hw6).mono ?_; rintro r w7 ⟨rfl, hw7, hk7⟩)
          go_roundw
          case rel => exact ⟨j + 1, by omega, by go_num, hw7, hW6.trans hk7.b, hk7.own (hown.below hb6) (by omega) (by decide), hk7.k _ _ _ (blk_below hbS hb6) (by omega) (.inr (by decide))⟩
          case measure => simp [intOf]; omega
        · have hj' : j = N := by omega
          subst hj'
          go_wp2_with fail
          go_roundw
          case rel => exact ⟨2, by omega, by go_num, hwr, hbr, hbS⟩
          case measure => simp [intOf]
    · rw [if_pos rfl] at hwr
      go_wp2_with fail
      refine bodyPost_end (v := .tuple #[]) (by simp [results, Tryz.results86, go_sem]) rfl ⟨rfl, hwr, hbr⟩
end Go.Proofs.YtjegncmkebbdfaaGreatDoor

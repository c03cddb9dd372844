/-
  Contracts of the functions of this seat that each theorem names: what a call returns, and that it writes nothing that was there before. The conditions stand in each theorem.
-/
import Derived.Test.YtjegncmkebbdfaaDoorF16Lines
import Derived.Test.YtjegncmkebbdfaaDoorF16Fmt16b
import Derived.Test.YtjegncmkebbdfaaDoorF16SEq2
set_option linter.unusedSimpArgs false
set_option linter.unusedVariables false
namespace Go.Proofs.YtjegncmkebbdfaaDoor
open Go.RowKit
attribute [local go_sem] Oper.semAt_some
attribute [local simp] heap_drew
theorem format16Q_any {A : Option Addr} {c : Nat} {l : List NodeE} {w : World} (H : NodesAt w A l) (hl : l.length ≤ 10000) (hf : ∀ n ∈ l, n.fields.length ≤ 10000) :
    Calls Tryd.prog 23 #[.agg #[.slice A l.length c]] w fun r w' => ∃ FA FC, r = .returned (.slice FA (linesB (conL l)).length FC) ∧ SlAt strC 1 w' FA (linesB (conL l)) ∧ Below w.heap.size w w' := by
  refine (format16_any A c l w H hl (fun n hn => by have := hf n hn; omega)).mono ?_
  rintro r w' ⟨o, FA, FC, ho, rfl, hown, hb⟩
  obtain rfl := ho.out
  exact ⟨FA, FC, rfl, (hown.at_ strC.enc).2.2, hb⟩
set_option maxRecDepth 100000 in
set_option maxHeartbeats 16000000 in
theorem lawValid_any (A : Option Addr) (c : Nat) (p : List NodeE) (B : Option Addr) (d : Nat) (q : List NodeE) (w : World) (h : Tab10 w) (H : NodesAt w A p) (K : NodesAt w B q) (ht : cntG p + cntG q ≤ 1000000000) :
    Calls Tryd.prog 6 #[.agg #[.slice A p.length c], .agg #[.slice B q.length d]] w fun r w' => r = .returned (.bool true) ∧ Below w.heap.size w w' := by
  have HN := H.later
  have KN := K.later
  have HT := h.later
  have HA : ∀ u [Later w u], Calls Tryd.prog 10 #[] u fun r w' => r = .returned (.bool true) ∧ Below u.heap.size u w' := fun u i => awake_any u (HT u)
  have HF : ∀ u [Later w u], Calls Tryd.prog 8 #[.slice (some ⟨u.heap.size, 0, none⟩) 2 2] (u.alloc (.cells #[.slice A p.length c, .slice B q.length d] 24 (0, 0))) fun r w' => r = .returned (.bool (decide (cntG p + cntG q ≤ 200))) ∧ Below (u.alloc (.cells #[.slice A p.length c, .slice B q.length d] 24 (0, 0))).heap.size (u.alloc (.cells #[.slice A p.length c, .slice B q.length d] 24 (0, 0))) w' := fun u i => few_two A c p B d q _ _ (heap_alloc_new _ _) (HN _) (KN _) ht
  cases hfw : decide (cntG p + cntG q ≤ 200) with
  | false =>
    simp only [hfw] at HF
    clear hfw
    go_enter Tryd.func6, Tryd.ntmps6
    go_upto_region 1 with fail
    refine wp_name ?_
    intro w1 hw1
    obtain ⟨B0, B1, l1⟩ := box2 hw1
    have l11 : Later w1 w1 := Later.refl
    clear hw1
    go_wp2_with (first | (go_at_call 8; refine (HF _).mono ?_; rintro r w2 ⟨rfl, hb2⟩; have l2 := later hb2) | (go_at_call 10; refine (HA _).mono ?_; rintro r w3 ⟨rfl, hb3⟩; have l3 := later hb3))
    go_ret
    exact ⟨rfl, below_of⟩
  | true =>
    simp only [hfw] at HF
    obtain ⟨hal, haf⟩ := cnt_bounds (l := p) (m := 200) (by have := of_decide_eq_true hfw; omega)
    obtain ⟨hbl, hbf⟩ := cnt_bounds (l := q) (m := 200) (by have := of_decide_eq_true hfw; omega)
    clear hfw
    have V1 : ∀ u, Later w u → Calls Tryd.prog 21 #[.agg #[.slice A p.length c]] u fun r w' => r = .returned (.bool (valid16B (conL p))) ∧ Below u.heap.size u w' := fun u i => validS_any A c p u (HN u) (by omega) (fun n hn => by have := haf n hn; omega)
    have V2 : ∀ u, Later w u → Calls Tryd.prog 9 #[.agg #[.slice A p.length c]] u fun r w' => r = .returned (.bool (valid16B (conL p))) ∧ Below u.heap.size u w' := fun u i => valid16_any A c p u (HN u) (by omega) (fun n hn => by have := haf n hn; omega)
    have E1 : ∀ u, Later w u → Calls Tryd.prog 22 #[.agg #[.slice A p.length c], .agg #[.slice B q.length d]] u fun r w' => r = .returned (.bool (decide (conL p = conL q))) ∧ Below u.heap.size u w' := fun u i => equalS_any A c p B d q u (HN u) (KN u) (by omega) (by omega) (fun n hn => by have := haf n hn; omega) (fun n hn => by have := hbf n hn; omega)
    have E2 : ∀ u, Later w u → Calls Tryd.prog 17 #[.agg #[.slice A p.length c], .agg #[.slice B q.length d]] u fun r w' => r = .returned (.bool (decide (conL p = conL q))) ∧ Below u.heap.size u w' := fun u i => equal16_any A c p B d q u (HN u) (KN u) (by omega) (by omega) (fun n hn => by have := haf n hn; omega) (fun n hn => by have := hbf n hn; omega)
    have E3 : ∀ u, Later w u → Calls Tryd.prog 22 #[.agg #[.slice A p.length c], .agg #[.slice A p.length c]] u fun r w' => r = .returned (.bool true) ∧ Below u.heap.size u w' := fun u i => by
      have := equalS_any A c p A c p u (HN u) (HN u) (by omega) (by omega) (fun n hn => by have := haf n hn; omega) (fun n hn => by have := haf n hn; omega)
      rw [decide_eq_true rfl] at this
      exact this
    have F1 : ∀ u, Later w u → Calls Tryd.prog 16 #[.agg #[.slice A p.length c]] u fun r w' => ∃ FA FC, r = .returned (.slice FA (linesB (conL p)).length FC) ∧ SlAt strC 1 w' FA (linesB (conL p)) ∧ Below u.heap.size u w' := fun u i => formatQ_any (HT u) (HN u) (by omega) (fun n hn => by have := haf n hn; omega)
    have F2 : ∀ u, Later w u → Calls Tryd.prog 23 #[.agg #[.slice A p.length c]] u fun r w' => ∃ FA FC, r = .returned (.slice FA (linesB (conL p)).length FC) ∧ SlAt strC 1 w' FA (linesB (conL p)) ∧ Below u.heap.size u w' := fun u i => format16Q_any (HN u) (by omega) (fun n hn => by have := haf n hn; omega)
    have zA := linesB_len (conL p)
    have zc : ∀ l : List NodeE, (conL l).length = l.length := fun l => by unfold conL; rw [List.length_map]
    rw [zc] at zA
    have SL : ∀ (XA : Option Addr) (xc : Nat) (YA : Option Addr) (yc : Nat) (u : World), SlAt strC 1 u XA (linesB (conL p)) → SlAt strC 1 u YA (linesB (conL p)) → Calls Tryd.prog 15 #[.slice XA (linesB (conL p)).length xc, .slice YA (linesB (conL p)).length yc] u fun r w' => r = .returned (.bool true) ∧ Below u.heap.size u w' := fun XA xc YA yc u h1 h2 => by
      have := sameLines_any XA xc _ YA yc _ u h1 h2 (by omega) (by omega)
      rw [decide_eq_true rfl] at this
      exact this
    generalize linesB (conL p) = la at F1 F2 SL
    generalize valid16B (conL p) = V at V1 V2
    generalize decide (conL p = conL q) = E at E1 E2
    have hVV : (V == V) = true := by cases V <;> rfl
    have hEE : (E == E) = true := by cases E <;> rfl
    clear zA zc
    go_enter Tryd.func6, Tryd.ntmps6
    go_upto_region 1 with fail
    refine wp_name ?_
    intro w1 hw1
    obtain ⟨B0, B1, l1⟩ := box2 hw1
    have l11 : Later w1 w1 := Later.refl
    clear hw1
    go_upto_region 3 with (go_at_call 8; refine (HF _).mono ?_; rintro r w2 ⟨rfl, hb2⟩; have l2 := later hb2)
    have hbw5 : Below w.heap.size w w2 := below_of
    have i15 : Later w1 w2 := inferInstance
    have lw5 : Later w w2 := ⟨hbw5⟩
    have ld5 : Later w2 w2.drew := inferInstance
    have HGa : ∀ u, Later w2.drew u → u.cell? ⟨w.heap.size, 0, none⟩ = some (.slice A p.length c) := fun u lu => by
      have := blk_cell (blk_below (B0 w1).1 (i15.trans (ld5.trans lu)).below) 0
      simpa using this
    have HGb : ∀ u, Later w2.drew u → u.cell? ⟨w.heap.size + 1, 0, none⟩ = some (.slice B q.length d) := fun u lu => by
      have := blk_cell (blk_below (B1 w1).1 (i15.trans (ld5.trans lu)).below) 0
      simpa using this
    have HWu : ∀ u, Later w2.drew u → Later w u := fun u lu => lw5.trans (ld5.trans lu)
    refine wp_region_inv (last := 30) (R := specR [.is (.agg #[.slice A p.length c]), .is (.bool V), .is (.agg #[.slice A p.length c]), .is (.bool V), .is (.bool true), .is (.bool true), .is (.agg #[.slice A p.length c]), .is (.agg #[.slice B q.length d]), .is (.bool E), .is (.agg #[.slice A p.length c]), .is (.agg #[.slice B q.length d]), .is (.bool E), .is (.bool true), .is (.bool true), .is (.bool true), .is (.agg #[.slice A p.length c]), .is (.agg #[.slice A p.length c]), .is (.bool true), .is (.bool true), .is (.bool true), .is (.agg #[.slice A p.length c]), .sl strC 1 la, .is (.agg #[.slice A p.length c]), .sl strC 1 la, .is (.bool true), .is (.bool true), .is (.bool true), .is (.bool true), .is (.bool true), .is (.bool true)]) (by kernel_rfl) (specR_mono _) (by kernel_rfl) (by kernel_rfl) (steps_all ?_) ?_ ?_
    · refine ⟨?_, ?_, ?_, ?_, ?_, ?_, ?_, ?_, ?_, ?_, ?_, ?_, ?_, ?_, ?_, ?_, ?_, ?_, ?_, ?_, ?_, ?_, ?_, ?_, ?_, ?_, ?_, ?_, ?_, ?_, trivial⟩
      · intro hne a u lu hN hO K hK
        (try simp only [Nat.zero_add, Nat.reduceAdd] at hN hK)
        have e0 : a.tmps.getD 2 undef = .pointer (some ⟨w.heap.size, 0, none⟩) := (hO 2 (out_get (by kernel_rfl))).trans rfl
        simp only [Array.getD_eq_getD_getElem?] at e0
        have cG := HGa u lu
        rw [if_pos (by rfl)]
        go_simp
        exact hK _ _ Later.refl rfl
      · intro hne a u lu hN hO K hK
        (try simp only [Nat.zero_add, Nat.reduceAdd] at hN hK)
        have e0 : a.tmps.getD 11 undef = .agg #[.slice A p.length c] := hN 0 (needs_get (by kernel_rfl))
        simp only [Array.getD_eq_getD_getElem?] at e0
        rw [if_pos (by rfl)]
        go_simp
        refine (V1 u (HWu u lu)).mono ?_
        rintro r u' ⟨rfl, hb⟩
        exact hK _ _ ⟨hb⟩ rfl
      · intro hne a u lu hN hO K hK
        (try simp only [Nat.zero_add, Nat.reduceAdd] at hN hK)
        have e0 : a.tmps.getD 2 undef = .pointer (some ⟨w.heap.size, 0, none⟩) := (hO 2 (out_get (by kernel_rfl))).trans rfl
        simp only [Array.getD_eq_getD_getElem?] at e0
        have cG := HGa u lu
        rw [if_pos (by rfl)]
        go_simp
        exact hK _ _ Later.refl rfl
      · intro hne a u lu hN hO K hK
        (try simp only [Nat.zero_add, Nat.reduceAdd] at hN hK)
        have e0 : a.tmps.getD 13 undef = .agg #[.slice A p.length c] := hN 2 (needs_get (by kernel_rfl))
        simp only [Array.getD_eq_getD_getElem?] at e0
        rw [if_pos (by rfl)]
        go_simp
        refine (V2 u (HWu u lu)).mono ?_
        rintro r u' ⟨rfl, hb⟩
        exact hK _ _ ⟨hb⟩ rfl
      · intro hne a u lu hN hO K hK
        (try simp only [Nat.zero_add, Nat.reduceAdd] at hN hK)
        have e0 : a.tmps.getD 12 undef = .bool V := hN 1 (needs_get (by kernel_rfl))
        simp only [Array.getD_eq_getD_getElem?] at e0
        have e1 : a.tmps.getD 14 undef = .bool V := hN 3 (needs_get (by kernel_rfl))
        simp only [Array.getD_eq_getD_getElem?] at e1
        rw [if_pos (by rfl)]
        go_simp
        exact hK _ _ Later.refl rfl
      · intro hne a u lu hN hO K hK
        (try simp only [Nat.zero_add, Nat.reduceAdd] at hN hK)
        have e0 : a.tmps.getD 15 undef = .bool true := hN 4 (needs_get (by kernel_rfl))
        simp only [Array.getD_eq_getD_getElem?] at e0
        rw [if_pos (by rfl)]
        go_simp
        exact hK _ _ Later.refl rfl
      · intro hne a u lu hN hO K hK
        (try simp only [Nat.zero_add, Nat.reduceAdd] at hN hK)
        have e0 : a.tmps.getD 2 undef = .pointer (some ⟨w.heap.size, 0, none⟩) := (hO 2 (out_get (by kernel_rfl))).trans rfl
        simp only [Array.getD_eq_getD_getElem?] at e0
        have cG := HGa u lu
        rw [if_pos (wanted_guard (j := 5) (d := 16) (b := true) rfl (by kernel_rfl) (hN 5 (needs_get (by kernel_rfl))))]
        go_simp
        exact hK _ _ Later.refl rfl
      · intro hne a u lu hN hO K hK
        (try simp only [Nat.zero_add, Nat.reduceAdd] at hN hK)
        have e0 : a.tmps.getD 3 undef = .pointer (some ⟨w.heap.size + 1, 0, none⟩) := (hO 3 (out_get (by kernel_rfl))).trans rfl
        simp only [Array.getD_eq_getD_getElem?] at e0
        have cG := HGb u lu
        rw [if_pos (wanted_guard (j := 5) (d := 16) (b := true) rfl (by kernel_rfl) (hN 5 (needs_get (by kernel_rfl))))]
        go_simp
        exact hK _ _ Later.refl rfl
      · intro hne a u lu hN hO K hK
        (try simp only [Nat.zero_add, Nat.reduceAdd] at hN hK)
        have e0 : a.tmps.getD 17 undef = .agg #[.slice A p.length c] := hN 6 (needs_get (by kernel_rfl))
        simp only [Array.getD_eq_getD_getElem?] at e0
        have e1 : a.tmps.getD 18 undef = .agg #[.slice B q.length d] := hN 7 (needs_get (by kernel_rfl))
        simp only [Array.getD_eq_getD_getElem?] at e1
        rw [if_pos (wanted_guard (j := 5) (d := 16) (b := true) rfl (by kernel_rfl) (hN 5 (needs_get (by kernel_rfl))))]
        go_simp
        refine (E1 u (HWu u lu)).mono ?_
        rintro r u' ⟨rfl, hb⟩
        exact hK _ _ ⟨hb⟩ rfl
      · intro hne a u lu hN hO K hK
        (try simp only [Nat.zero_add, Nat.reduceAdd] at hN hK)
        have e0 : a.tmps.getD 2 undef = .pointer (some ⟨w.heap.size, 0, none⟩) := (hO 2 (out_get (by kernel_rfl))).trans rfl
        simp only [Array.getD_eq_getD_getElem?] at e0
        have cG := HGa u lu
        rw [if_pos (wanted_guard (j := 5) (d := 16) (b := true) rfl (by kernel_rfl) (hN 5 (needs_get (by kernel_rfl))))]
        go_simp
        exact hK _ _ Later.refl rfl
      · intro hne a u lu hN hO K hK
        (try simp only [Nat.zero_add, Nat.reduceAdd] at hN hK)
        have e0 : a.tmps.getD 3 undef = .pointer (some ⟨w.heap.size + 1, 0, none⟩) := (hO 3 (out_get (by kernel_rfl))).trans rfl
        simp only [Array.getD_eq_getD_getElem?] at e0
        have cG := HGb u lu
        rw [if_pos (wanted_guard (j := 5) (d := 16) (b := true) rfl (by kernel_rfl) (hN 5 (needs_get (by kernel_rfl))))]
        go_simp
        exact hK _ _ Later.refl rfl
      · intro hne a u lu hN hO K hK
        (try simp only [Nat.zero_add, Nat.reduceAdd] at hN hK)
        have e0 : a.tmps.getD 20 undef = .agg #[.slice A p.length c] := hN 9 (needs_get (by kernel_rfl))
        simp only [Array.getD_eq_getD_getElem?] at e0
        have e1 : a.tmps.getD 21 undef = .agg #[.slice B q.length d] := hN 10 (needs_get (by kernel_rfl))
        simp only [Array.getD_eq_getD_getElem?] at e1
        rw [if_pos (wanted_guard (j := 5) (d := 16) (b := true) rfl (by kernel_rfl) (hN 5 (needs_get (by kernel_rfl))))]
        go_simp
        refine (E2 u (HWu u lu)).mono ?_
        rintro r u' ⟨rfl, hb⟩
        exact hK _ _ ⟨hb⟩ rfl
      · intro hne a u lu hN hO K hK
        (try simp only [Nat.zero_add, Nat.reduceAdd] at hN hK)
        have e0 : a.tmps.getD 19 undef = .bool E := hN 8 (needs_get (by kernel_rfl))
        simp only [Array.getD_eq_getD_getElem?] at e0
        have e1 : a.tmps.getD 22 undef = .bool E := hN 11 (needs_get (by kernel_rfl))
        simp only [Array.getD_eq_getD_getElem?] at e1
        rw [if_pos (wanted_guard (j := 5) (d := 16) (b := true) rfl (by kernel_rfl) (hN 5 (needs_get (by kernel_rfl))))]
        go_simp
        exact hK _ _ Later.refl rfl
      · intro hne a u lu hN hO K hK
        (try simp only [Nat.zero_add, Nat.reduceAdd] at hN hK)
        have e0 : a.tmps.getD 16 undef = .bool true := hN 5 (needs_get (by kernel_rfl))
        simp only [Array.getD_eq_getD_getElem?] at e0
        have e1 : a.tmps.getD 23 undef = .bool true := hN 12 (needs_get (by kernel_rfl))
        simp only [Array.getD_eq_getD_getElem?] at e1
        rw [if_pos (by rfl)]
        go_simp
        exact hK _ _ Later.refl rfl
      · intro hne a u lu hN hO K hK
        (try simp only [Nat.zero_add, Nat.reduceAdd] at hN hK)
        have e0 : a.tmps.getD 24 undef = .bool true := hN 13 (needs_get (by kernel_rfl))
        simp only [Array.getD_eq_getD_getElem?] at e0
        rw [if_pos (by rfl)]
        go_simp
        exact hK _ _ Later.refl rfl
      · intro hne a u lu hN hO K hK
        (try simp only [Nat.zero_add, Nat.reduceAdd] at hN hK)
        have e0 : a.tmps.getD 2 undef = .pointer (some ⟨w.heap.size, 0, none⟩) := (hO 2 (out_get (by kernel_rfl))).trans rfl
        simp only [Array.getD_eq_getD_getElem?] at e0
        have cG := HGa u lu
        rw [if_pos (wanted_guard (j := 14) (d := 25) (b := true) rfl (by kernel_rfl) (hN 14 (needs_get (by kernel_rfl))))]
        go_simp
        exact hK _ _ Later.refl rfl
      · intro hne a u lu hN hO K hK
        (try simp only [Nat.zero_add, Nat.reduceAdd] at hN hK)
        have e0 : a.tmps.getD 2 undef = .pointer (some ⟨w.heap.size, 0, none⟩) := (hO 2 (out_get (by kernel_rfl))).trans rfl
        simp only [Array.getD_eq_getD_getElem?] at e0
        have cG := HGa u lu
        rw [if_pos (wanted_guard (j := 14) (d := 25) (b := true) rfl (by kernel_rfl) (hN 14 (needs_get (by kernel_rfl))))]
        go_simp
        exact hK _ _ Later.refl rfl
      · intro hne a u lu hN hO K hK
        (try simp only [Nat.zero_add, Nat.reduceAdd] at hN hK)
        have e0 : a.tmps.getD 26 undef = .agg #[.slice A p.length c] := hN 15 (needs_get (by kernel_rfl))
        simp only [Array.getD_eq_getD_getElem?] at e0
        have e1 : a.tmps.getD 27 undef = .agg #[.slice A p.length c] := hN 16 (needs_get (by kernel_rfl))
        simp only [Array.getD_eq_getD_getElem?] at e1
        rw [if_pos (wanted_guard (j := 14) (d := 25) (b := true) rfl (by kernel_rfl) (hN 14 (needs_get (by kernel_rfl))))]
        go_simp
        refine (E3 u (HWu u lu)).mono ?_
        rintro r u' ⟨rfl, hb⟩
        exact hK _ _ ⟨hb⟩ rfl
      · intro hne a u lu hN hO K hK
        (try simp only [Nat.zero_add, Nat.reduceAdd] at hN hK)
        have e0 : a.tmps.getD 25 undef = .bool true := hN 14 (needs_get (by kernel_rfl))
        simp only [Array.getD_eq_getD_getElem?] at e0
        have e1 : a.tmps.getD 28 undef = .bool true := hN 17 (needs_get (by kernel_rfl))
        simp only [Array.getD_eq_getD_getElem?] at e1
        rw [if_pos (by rfl)]
        go_simp
        exact hK _ _ Later.refl rfl
      · intro hne a u lu hN hO K hK
        (try simp only [Nat.zero_add, Nat.reduceAdd] at hN hK)
        have e0 : a.tmps.getD 29 undef = .bool true := hN 18 (needs_get (by kernel_rfl))
        simp only [Array.getD_eq_getD_getElem?] at e0
        rw [if_pos (by rfl)]
        go_simp
        exact hK _ _ Later.refl rfl
      · intro hne a u lu hN hO K hK
        (try simp only [Nat.zero_add, Nat.reduceAdd] at hN hK)
        have e0 : a.tmps.getD 2 undef = .pointer (some ⟨w.heap.size, 0, none⟩) := (hO 2 (out_get (by kernel_rfl))).trans rfl
        simp only [Array.getD_eq_getD_getElem?] at e0
        have cG := HGa u lu
        rw [if_pos (wanted_guard (j := 19) (d := 30) (b := true) rfl (by kernel_rfl) (hN 19 (needs_get (by kernel_rfl))))]
        go_simp
        exact hK _ _ Later.refl rfl
      · intro hne a u lu hN hO K hK
        (try simp only [Nat.zero_add, Nat.reduceAdd] at hN hK)
        have e0 : a.tmps.getD 31 undef = .agg #[.slice A p.length c] := hN 20 (needs_get (by kernel_rfl))
        simp only [Array.getD_eq_getD_getElem?] at e0
        rw [if_pos (wanted_guard (j := 19) (d := 30) (b := true) rfl (by kernel_rfl) (hN 19 (needs_get (by kernel_rfl))))]
        go_simp
        refine (F1 u (HWu u lu)).mono ?_
        rintro r u' ⟨QA, QC, rfl, hs, hb⟩
        exact hK _ _ ⟨hb⟩ ⟨QA, QC, rfl, hs⟩
      · intro hne a u lu hN hO K hK
        (try simp only [Nat.zero_add, Nat.reduceAdd] at hN hK)
        have e0 : a.tmps.getD 2 undef = .pointer (some ⟨w.heap.size, 0, none⟩) := (hO 2 (out_get (by kernel_rfl))).trans rfl
        simp only [Array.getD_eq_getD_getElem?] at e0
        have cG := HGa u lu
        rw [if_pos (wanted_guard (j := 19) (d := 30) (b := true) rfl (by kernel_rfl) (hN 19 (needs_get (by kernel_rfl))))]
        go_simp
        exact hK _ _ Later.refl rfl
      · intro hne a u lu hN hO K hK
        (try simp only [Nat.zero_add, Nat.reduceAdd] at hN hK)
        have e0 : a.tmps.getD 33 undef = .agg #[.slice A p.length c] := hN 22 (needs_get (by kernel_rfl))
        simp only [Array.getD_eq_getD_getElem?] at e0
        rw [if_pos (wanted_guard (j := 19) (d := 30) (b := true) rfl (by kernel_rfl) (hN 19 (needs_get (by kernel_rfl))))]
        go_simp
        refine (F2 u (HWu u lu)).mono ?_
        rintro r u' ⟨QA, QC, rfl, hs, hb⟩
        exact hK _ _ ⟨hb⟩ ⟨QA, QC, rfl, hs⟩
      · intro hne a u lu hN hO K hK
        (try simp only [Nat.zero_add, Nat.reduceAdd] at hN hK)
        obtain ⟨Ax, cx, ex, Sx⟩ : ∃ A c, a.tmps.getD 32 undef = .slice A la.length c ∧ SlAt strC 1 u A la := hN 21 (needs_get (by kernel_rfl))
        simp only [Array.getD_eq_getD_getElem?] at ex
        obtain ⟨Ay, cy, ey, Sy⟩ : ∃ A c, a.tmps.getD 34 undef = .slice A la.length c ∧ SlAt strC 1 u A la := hN 23 (needs_get (by kernel_rfl))
        simp only [Array.getD_eq_getD_getElem?] at ey
        rw [if_pos (wanted_guard (j := 19) (d := 30) (b := true) rfl (by kernel_rfl) (hN 19 (needs_get (by kernel_rfl))))]
        go_simp
        refine (SL Ax cx Ay cy u Sx Sy).mono ?_
        rintro r u' ⟨rfl, hb⟩
        exact hK _ _ ⟨hb⟩ rfl
      · intro hne a u lu hN hO K hK
        (try simp only [Nat.zero_add, Nat.reduceAdd] at hN hK)
        have e0 : a.tmps.getD 30 undef = .bool true := hN 19 (needs_get (by kernel_rfl))
        simp only [Array.getD_eq_getD_getElem?] at e0
        have e1 : a.tmps.getD 35 undef = .bool true := hN 24 (needs_get (by kernel_rfl))
        simp only [Array.getD_eq_getD_getElem?] at e1
        rw [if_pos (by rfl)]
        go_simp
        exact hK _ _ Later.refl rfl
      · intro hne a u lu hN hO K hK
        (try simp only [Nat.zero_add, Nat.reduceAdd] at hN hK)
        have e0 : a.tmps.getD 36 undef = .bool true := hN 25 (needs_get (by kernel_rfl))
        simp only [Array.getD_eq_getD_getElem?] at e0
        rw [if_pos (by rfl)]
        go_simp
        exact hK _ _ Later.refl rfl
      · intro hne a u lu hN hO K hK
        (try simp only [Nat.zero_add, Nat.reduceAdd] at hN hK)
        rw [if_pos (wanted_guard (j := 26) (d := 37) (b := true) rfl (by kernel_rfl) (hN 26 (needs_get (by kernel_rfl))))]
        go_simp
        have lwu := HWu u lu
        refine (HA u).mono ?_
        rintro r u' ⟨rfl, hb⟩
        exact hK _ _ ⟨hb⟩ rfl
      · intro hne a u lu hN hO K hK
        (try simp only [Nat.zero_add, Nat.reduceAdd] at hN hK)
        have e0 : a.tmps.getD 37 undef = .bool true := hN 26 (needs_get (by kernel_rfl))
        simp only [Array.getD_eq_getD_getElem?] at e0
        have e1 : a.tmps.getD 38 undef = .bool true := hN 27 (needs_get (by kernel_rfl))
        simp only [Array.getD_eq_getD_getElem?] at e1
        rw [if_pos (by rfl)]
        go_simp
        exact hK _ _ Later.refl rfl
      · intro hne a u lu hN hO K hK
        (try simp only [Nat.zero_add, Nat.reduceAdd] at hN hK)
        have e0 : a.tmps.getD 39 undef = .bool true := hN 28 (needs_get (by kernel_rfl))
        simp only [Array.getD_eq_getD_getElem?] at e0
        rw [if_pos (by rfl)]
        go_simp
        exact hK _ _ Later.refl rfl
    · intro o ho; cases ho
    · intro _ a7 w7 hI7
      have e0 : a7.tmps.getD 4 undef = .bool true := hI7.got 29 (by decide) rfl
      have hd7 : a7.defers = [] := hI7.defers.trans rfl
      have l57 : Later w2 w7 := ld5.trans hI7.later
      go_wp2_with fail
      refine bodyPost_ret (results_tmp rfl _ _ _) hd7 ⟨by rw [e0], hbw5.trans (l57.below.mono hbw5.size)⟩
end Go.Proofs.YtjegncmkebbdfaaDoor

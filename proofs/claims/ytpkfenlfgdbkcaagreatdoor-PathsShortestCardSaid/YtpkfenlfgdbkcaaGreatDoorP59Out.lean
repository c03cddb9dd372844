/-
  Contracts of the functions of this seat that each theorem names: what a call returns, and that it writes nothing that was there before. The conditions stand in each theorem.
-/
import Derived.Test.YtpkfenlfgdbkcaaGreatDoorP59Del
import Derived.Test.YtpkfenlfgdbkcaaGreatDoorGrp35
set_option linter.unusedSimpArgs false
set_option linter.unusedVariables false
namespace Go.Proofs.YtpkfenlfgdbkcaaGreatDoor
open Go.RowKit
attribute [local go_sem] Oper.semAt_some Instr.makeFunc
attribute [local simp] heap_drew
attribute [local go_sem ↓] load_view_pre load_flight_pre load_msg_pre store_view_pre store_flight_pre store_msg_pre load_scion_pre store_scion_pre
attribute [local go_sem] load_view load_flight load_msg store_view store_flight store_msg load_scion store_scion view_isRow zero_isRow scion_isRow zeroS_isRow rowFree_new setRow_new view_arr0 view_arr2 view_arr3 view_arr4 view_arr5 view_arr6 view_arr9 view_arr10 flight_arr0 flight_arr1 flight_arr2 flight_arr3 flight_arr6 flight_arr7 flight_arr8 flight_arr9 flight_arr10 flight_arr11 flight_arr12 flight_arr13 flight_arr17 flight_arr18 flight_arr19 flight_arr20 flight_arr21 flight_arr22 flight_arr23 flight_arr24 flight_arr25 msg_arr0 msg_arr1 msg_arr4 msg_arr5 msg_arr6 msg_arr7 msg_arr8 msg_arr9 msg_arr10 msg_arr11 msg_arr15 msg_arr16 msg_arr17 msg_arr18 msg_arr19 msg_arr20 msg_arr21 msg_arr22 msg_arr23
attribute [local go_sem ↓] run_eql_id run_neq_id
/-! ### A list of identities in a variable's box -/
/-- What an append to it keeps. -/
structure KI (base : Nat) (w w' : World) : Prop where
  b : Below base w w'
  k : ∀ (k : Nat) (ob : Obj), w.heap[k]? = some ob → (∀ cs t fr, ob = .cells cs t fr → t ≠ 24 ∧ t ≠ 48) → w'.heap[k]? = some ob
theorem KI.trans {base : Nat} {a b c : World} (h : KI base a b) (k : KI base b c) : KI base a c := ⟨h.b.trans k.b, fun j ob hj ht => k.k j ob (h.k j ob hj ht) ht⟩
theorem KI.of_below {base : Nat} {w w' : World} (h : Below w.heap.size w w') (hB : base ≤ w.heap.size) : KI base w w' := ⟨h.mono hB, fun _ _ hk _ => blk_below hk h⟩
theorem KI.refl {base : Nat} {w : World} : KI base w w := ⟨Below.refl _ _, fun _ _ h _ => h⟩
theorem KI.cells {base : Nat} {w w' : World} (h : KI base w w') {k : Nat} {cs : Array Value} {t : TypeId} (hk : w.heap[k]? = some (.cells cs t (0, 0))) (h1 : t ≠ 24) (h2 : t ≠ 48) : w'.heap[k]? = some (.cells cs t (0, 0)) := h.k k _ hk fun cs' t' fr' e => by injection e with _ e _; rw [← e]; exact ⟨h1, h2⟩
theorem KI.keepsFrom {base B : Nat} {w w' : World} (h : KI base w w') : KeepsFrom B w w' := ⟨h.b.size, fun k ob _ hk hc => h.k k ob hk fun cs t fr e => by subst e; cases hc⟩
theorem KI.kpV {base : Nat} {w w' : World} (h : KI base w w') : KpV base w w' := ⟨h.b, fun k cs t ht hk => by rcases ht with rfl | rfl <;> exact h.cells hk (by decide) (by decide)⟩
def OutI (gO base : Nat) (q : List IDE) (w : World) : Prop := ∃ OA OC, w.heap[gO]? = some (.cells #[.slice OA q.length OC] 48 (0, 0)) ∧ Own IDE.cells 2 24 base w (.slice OA q.length OC) q
theorem OutI.below {gO base : Nat} {q : List IDE} {w w' : World} (h : OutI gO base q w) (hb : Below w.heap.size w w') : OutI gO base q w' := by
  obtain ⟨OA, OC, h1, h2⟩ := h
  exact ⟨OA, OC, blk_below h1 hb, h2.below hb⟩
theorem OutI.grown {gO base : Nat} {q : List IDE} {w w' : World} {row : Option Nat} (h : OutI gO base q w) (hg : w.grownBy w' row) (hr : ∀ r, row = some r → ∃ o, w.heap[r]? = some o ∧ o.isCells = false) : OutI gO base q w' := by
  obtain ⟨OA, OC, h1, h2⟩ := h
  have hne : ∀ (k : Nat) (cs : Array Value) (t : TypeId) (fr : Nat × Nat), w.heap[k]? = some (.cells cs t fr) → row ≠ some k := fun k cs t fr hk e => by
    obtain ⟨o, ho, hc⟩ := hr k e
    rw [hk] at ho; injection ho with ho; subst ho; cases hc
  refine ⟨OA, OC, (hg.block _ (blk_lt h1) (fun e => hne _ _ _ _ h1 e.symm)).trans h1, h2.kept hg ?_⟩
  cases hv : (Value.slice OA q.length OC).ownBlock with
  | none => exact .inl rfl
  | some k =>
    obtain ⟨cs, hc⟩ := own_type h2 hv
    exact .inr fun e => hne _ _ _ _ hc e.symm
/-- One identity more. -/
theorem out_app {gO base : Nat} {q : List IDE} {y : IDE} {w w4 : World} {OA A' : Option Addr} {OC c' : Nat} (bO : w.heap[gO]? = some (.cells #[.slice OA q.length OC] 48 (0, 0))) (hown : Own IDE.cells 2 24 base w (.slice OA q.length OC) q) (hst : Step w w4 (.slice OA q.length OC) (.slice A' (q.length + 1) c')) (ho : Own IDE.cells 2 24 base w4 (.slice A' (q.length + 1) c') (q ++ [y])) (hb : Below base w w4) (hgO : base ≤ gO) :
    w4.heap[gO]? = some (.cells #[.slice OA q.length OC] 48 (0, 0)) ∧ OutI gO base (q ++ [y]) (w4.setCell ⟨gO, 0, none⟩ (.slice A' (q.length + 1) c')) ∧ KI base w (w4.setCell ⟨gO, 0, none⟩ (.slice A' (q.length + 1) c')) := by
  have bO4 := hst.keep hown bO (by decide)
  refine ⟨bO4, ⟨A', c', ?_, ?_⟩, hb.setCell (p := ⟨gO, 0, none⟩) hgO _, fun k ob hk ht => ?_⟩
  · have := blk_set bO4 0 (.slice A' (q.length + 1) c')
    rw [List.length_append, List.length_singleton]
    exact this
  · rw [List.length_append, List.length_singleton]
    exact ho.far (p := ⟨gO, 0, none⟩) (own_off ho bO4 (by decide)) _
  · have hne : k ≠ gO := fun e => by
      subst e
      rw [bO] at hk
      injection hk with hk
      exact (ht _ _ _ hk.symm).2 rfl
    refine (blk_far (p := ⟨gO, 0, none⟩) hne _).trans ((hst.1.block k (blk_lt hk) fun e => ?_).trans hk)
    obtain ⟨cs, hc⟩ := own_type hown e.symm
    rw [hk] at hc
    injection hc with hc
    exact (ht _ _ _ hc).1 rfl
/-- The own list of identities before and behind an append. -/
def appI (base : Nat) (q : List IDE) (x : IDE) (OA : Option Addr) (OC : Nat) (b : Bool) (v : Value) (u : World) : Prop :=
  match b with
  | true => ∃ A' c', v = .slice A' (q.length + 1) c' ∧ Own IDE.cells 2 24 base u (.slice A' (q.length + 1) c') (q ++ [x])
  | false => Own IDE.cells 2 24 base u (.slice OA q.length OC) q
theorem appI_mono (base : Nat) (q : List IDE) (x : IDE) (OA : Option Addr) (OC : Nat) : ∀ b v w w', Later w w' → appI base q x OA OC b v w → appI base q x OA OC b v w' := fun b v w w' l h => by
  cases b with
  | true =>
    obtain ⟨A', c', h1, h2⟩ := h
    exact ⟨A', c', h1, h2.below l.below⟩
  | false => exact Own.below h l.below
/-- Behind the store at the end of a region that appended. -/
theorem out_end {gO base : Nat} {q : List IDE} {y : IDE} {w3 u : World} {OA A' : Option Addr} {OC c' : Nat} {row : Option Nat} (bO : w3.heap[gO]? = some (.cells #[.slice OA q.length OC] 48 (0, 0))) (hown : Own IDE.cells 2 24 base w3 (.slice OA q.length OC) q) (hrow : row = (Value.slice OA q.length OC).ownBlock) (hg : w3.drew.grownBy u row) (ho : Own IDE.cells 2 24 base u (.slice A' (q.length + 1) c') (q ++ [y])) (hz : base ≤ w3.heap.size) (hgO : base ≤ gO) :
    OutI gO base (q ++ [y]) (u.setCell ⟨gO, 0, none⟩ (.slice A' (q.length + 1) c')) ∧ KI base w3 (u.setCell ⟨gO, 0, none⟩ (.slice A' (q.length + 1) c')) := by
  have bOu : u.heap[gO]? = some (.cells #[.slice OA q.length OC] 48 (0, 0)) := (hg.block gO (blk_lt bO) (fun e => own_off hown bO (by decide) (by rw [← hrow]; exact e.symm))).trans bO
  have hb : Below base w3 u := (Below.refl base w3).drew.grown hg (by exact hz) fun k hk => (World.ownsRow.lt hown k (hrow ▸ hk)).1
  refine ⟨⟨A', c', ?_, ?_⟩, hb.setCell (p := ⟨gO, 0, none⟩) hgO _, fun k ob hk ht => ?_⟩
  · have := blk_set bOu 0 (.slice A' (q.length + 1) c')
    rw [List.length_append, List.length_singleton]
    exact this
  · rw [List.length_append, List.length_singleton]
    exact ho.far (p := ⟨gO, 0, none⟩) (own_off ho bOu (by decide)) _
  · have hne : k ≠ gO := fun e => by
      subst e
      rw [bO] at hk
      injection hk with hk
      exact (ht _ _ _ hk.symm).2 rfl
    refine (blk_far (p := ⟨gO, 0, none⟩) hne _).trans ((hg.block k (blk_lt hk) fun e => ?_).trans hk)
    obtain ⟨cs, hc⟩ := own_type hown (hrow ▸ e.symm)
    rw [hk] at hc
    injection hc with hc
    exact (ht _ _ _ hc).1 rfl
set_option maxRecDepth 100000 in
set_option maxHeartbeats 8000000 in
theorem roots1_any (A : Option Addr) (c : Nat) (V : List ViewE) (g : Nat) (v : ViewE) (x : FlightE) (l : List RefE) (RA : Option Addr) (rc : Nat) (W0 : World) (H : ViewsAt W0 A V) (hM : FleetM W0 g V) (hf : FewV V) (q : List IDE) (w : World) (hb : Below W0.heap.size W0 w) (gO gF gV gX : Nat) (hgO : W0.heap.size ≤ gO) (hO : OutI gO W0.heap.size q w)
    (bF : w.heap[gF]? = some (.cells #[.slice A V.length c, .map (some g)] 93 (0, 0))) (bV : w.heap[gV]? = some (.cells v.arr 64 (0, 0))) (bX : w.heap[gX]? = some (.cells x.arr 87 (0, 0))) (HL : ∀ u, KI W0.heap.size w u → SlAt RefE.cells 8 u RA l) (hll : l.length ≤ 6) (hql : q.length ≤ 10000) :
    Calls Tryz.prog 41 #[.slice RA l.length rc, .pointer (some ⟨gO, 0, none⟩), .pointer (some ⟨gF, 0, none⟩), .pointer (some ⟨gV, 0, none⟩), .pointer (some ⟨gX, 0, none⟩)] w fun r w' => r = .returned (.tuple #[]) ∧ OutI gO W0.heap.size (q ++ l.map (refId V v.machine x.dst)) w' ∧ KI W0.heap.size w w' := by
  have hz0 := hb.size
  go_enter Tryz.func41, Tryz.ntmps41
  go_wp2_with fail
  go_loopw [10] (fun i wr => ∃ (k : Nat) (q' : List IDE), k ≤ l.length ∧ i = .int .i64 k ∧ Hid (q' = q ++ (l.take k).map (refId V v.machine x.dst)) ∧ Hid (q'.length = q.length + k) ∧ OutI gO W0.heap.size q' wr ∧ KI W0.heap.size w wr) (fun i _ => l.length - (intOf i).toNat)
  case atStart => exact ⟨0, q, by omega, rfl, hide (by simp), hide rfl, hO, KI.refl⟩
  case round =>
    obtain ⟨k, q', hk, rfl, hq, hqk, hO', hk'⟩ := hrel
    have lrr : Later wr wr := Later.refl
    have hz1 := hk'.b.size
    by_cases hlt : k < l.length
    · obtain ⟨rb, ro, r, rfl, hr, RC⟩ := RefE.get (HL wr hk') hlt
      have hki : (k : Int) < (l.length : Int) := by omega
      have hT := hide (take_snoc_get hr)
      clear hr
      have hcalls : ∀ u, Below W0.heap.size W0 u → Calls Tryz.prog 42 #[fleetV A c V g, .int .i64 v.machine, .int .i64 x.dst, r.v] u (IdPost V v.machine x.dst r u) := fun u hu => id_any A c V g v.machine x.dst r u (H.below hu) (hM.below hu) hf
      obtain ⟨val, hval⟩ : ∃ y, refId V v.machine x.dst r = y := ⟨_, rfl⟩
      unfold IdPost at hcalls
      rw [hval] at hcalls
      have Hval := hide hval
      have hqn : q'.length ≤ 20000 := by rw [hqk.out]; omega
      clear hval
      obtain ⟨OA, OC, bO, hown⟩ := hO'
      go_upto_region 3 with fail
      refine wp_name ?_
      intro w3 hw3
      obtain ⟨gR, hgR⟩ : ∃ y, y = wr.heap.size := ⟨_, rfl⟩
      rw [← hgR]
      have bR3 : w3.heap[gR]? = some (.cells r.arr 69 (0, 0)) := by rw [hgR]; exact (by rw [← hw3]; simp only [heap_alloc_if, World.size_alloc]; repeat (first | rw [if_pos trivial] | rw [if_neg (by omega)] | rw [if_pos (by omega)]); try rfl)
      clear hgR
      have hb3 : Below wr.heap.size wr w3 := by rw [← hw3]; exact (by repeat (first | with_reducible exact Below.refl _ _ | (with_reducible refine Below.drew ?_) | (with_reducible refine below_drewN ?_ _) | (with_reducible refine Below.alloc ?_ ?_ _; rotate_left; (first | omega | (simp <;> omega))) | (with_reducible refine Below.setCell ?_ ?_ _; rotate_left; (first | omega | (simp <;> omega)))))
      clear hw3
      have hzr : W0.heap.size ≤ wr.heap.size := by omega
      have hk3 : KI W0.heap.size w w3 := hk'.trans (KI.of_below hb3 hzr)
      have bO3 := blk_below bO hb3
      have bF3 := hk3.cells bF (by decide) (by decide)
      have bV3 := hk3.cells bV (by decide) (by decide)
      have bX3 := hk3.cells bX (by decide) (by decide)
      have hfo3 := hown.below hb3
      have hz3 : W0.heap.size ≤ w3.heap.size := Nat.le_trans hzr hb3.size
      obtain ⟨row, hrowe⟩ : ∃ q, q = (Value.slice OA q'.length OC).ownBlock := ⟨_, rfl⟩
      have hrow : ∀ k, row = some k → k < w3.heap.size := fun k hk => (World.ownsRow.lt hfo3 k (hrowe ▸ hk)).2
      have hrowB : ∀ k, row = some k → W0.heap.size ≤ k := fun k hk => (World.ownsRow.lt hfo3 k (hrowe ▸ hk)).1
      have hOld : ∀ u, w3.drew.grownBy u row → ∀ (k : Nat) (cs : Array Value) (t : TypeId), w3.heap[k]? = some (.cells cs t (0, 0)) → 24 ≠ t → u.heap[k]? = some (.cells cs t (0, 0)) := fun u hu k cs t hk ht => (hu.block k (blk_lt hk) (fun e => own_off hfo3 hk ht (by rw [← hrowe]; exact e.symm))).trans hk
      have HO : ∀ u, w3.drew.grownBy u row → u.heap[gO]? = _ := fun u hu => hOld u hu _ _ _ bO3 (by decide)
      have HF : ∀ u, w3.drew.grownBy u row → u.heap[gF]? = _ := fun u hu => hOld u hu _ _ _ bF3 (by decide)
      have HVb : ∀ u, w3.drew.grownBy u row → u.heap[gV]? = _ := fun u hu => hOld u hu _ _ _ bV3 (by decide)
      have HXb : ∀ u, w3.drew.grownBy u row → u.heap[gX]? = _ := fun u hu => hOld u hu _ _ _ bX3 (by decide)
      have HRb : ∀ u, w3.drew.grownBy u row → u.heap[gR]? = _ := fun u hu => hOld u hu _ _ _ bR3 (by decide)
      have hBU : ∀ u, w3.drew.grownBy u row → Below W0.heap.size W0 u := fun u hu => (hb.trans hk3.b).drew.grown hu (by exact hz3) hrowB
      refine wp_region_invA (last := 10) (ap := 9) (row := row) (by kernel_rfl) (R := specRA [.is (.slice OA q'.length OC), .is (fleetV A c V g), .is (.pointer (some ⟨gV, 0, none⟩)), .is (.int .i64 v.machine), .is (.pointer (some ⟨gX, 0, none⟩)), .is (.int .i64 x.dst), .is r.v, .is val.v, SpecA.blk hrow (fun g => .slice (some ⟨g, 0, none⟩) 1 1) val.arr 24, .any]) (J := appI W0.heap.size q' val OA OC) (specRA_mono (B := w3.heap.size) (row := row) _) (appI_mono _ _ _ _ _) (by kernel_rfl) (by kernel_rfl) (by kernel_rfl) (Own.below hfo3 (Below.refl _ _).drew) (steps_all ?_) ?_ ?_ (fun h => absurd h (by decide))
      · refine ⟨?_, ?_, ?_, ?_, ?_, ?_, ?_, ?_, ?_, ?_, ?_, trivial⟩
        · intro hne hne2 a u lu hN hO K hK
          (try simp only [Nat.zero_add, Nat.reduceAdd] at hN hK)
          have e0 : a.tmps.getD 1 undef = .pointer (some ⟨gO, 0, none⟩) := (hO 1 (out_get (by kernel_rfl))).trans rfl
          simp only [Array.getD_eq_getD_getElem?] at e0
          have X := boxed (HO u lu)
          have luu : Later u u := Later.refl
          rw [if_pos (by rfl)]
          go_simp
          exact hK _ _ Later.refl rfl
        · intro hne hne2 a u lu hN hO K hK
          (try simp only [Nat.zero_add, Nat.reduceAdd] at hN hK)
          have e0 : a.tmps.getD 2 undef = .pointer (some ⟨gF, 0, none⟩) := (hO 2 (out_get (by kernel_rfl))).trans rfl
          simp only [Array.getD_eq_getD_getElem?] at e0
          have X := boxed (HF u lu)
          have luu : Later u u := Later.refl
          rw [if_pos (by rfl)]
          go_simp
          exact hK _ _ Later.refl rfl
        · intro hne hne2 a u lu hN hO K hK
          (try simp only [Nat.zero_add, Nat.reduceAdd] at hN hK)
          have e0 : a.tmps.getD 3 undef = .pointer (some ⟨gV, 0, none⟩) := (hO 3 (out_get (by kernel_rfl))).trans rfl
          simp only [Array.getD_eq_getD_getElem?] at e0
          rw [if_pos (by rfl)]
          go_simp
          exact hK _ _ Later.refl rfl
        · intro hne hne2 a u lu hN hO K hK
          (try simp only [Nat.zero_add, Nat.reduceAdd] at hN hK)
          have e0 : a.tmps.getD 16 undef = .pointer (some ⟨gV, 0, none⟩) := hN 2 (needs_get (by kernel_rfl))
          simp only [Array.getD_eq_getD_getElem?] at e0
          have X := boxed (HVb u lu)
          have luu : Later u u := Later.refl
          rw [if_pos (by rfl)]
          go_simp
          exact hK _ _ Later.refl rfl
        · intro hne hne2 a u lu hN hO K hK
          (try simp only [Nat.zero_add, Nat.reduceAdd] at hN hK)
          have e0 : a.tmps.getD 4 undef = .pointer (some ⟨gX, 0, none⟩) := (hO 4 (out_get (by kernel_rfl))).trans rfl
          simp only [Array.getD_eq_getD_getElem?] at e0
          rw [if_pos (by rfl)]
          go_simp
          exact hK _ _ Later.refl rfl
        · intro hne hne2 a u lu hN hO K hK
          (try simp only [Nat.zero_add, Nat.reduceAdd] at hN hK)
          have e0 : a.tmps.getD 18 undef = .pointer (some ⟨gX, 0, none⟩) := hN 4 (needs_get (by kernel_rfl))
          simp only [Array.getD_eq_getD_getElem?] at e0
          have X := boxed (HXb u lu)
          have luu : Later u u := Later.refl
          rw [if_pos (by rfl)]
          go_simp
          exact hK _ _ Later.refl rfl
        · intro hne hne2 a u lu hN hO K hK
          (try simp only [Nat.zero_add, Nat.reduceAdd] at hN hK)
          have e0 : a.tmps.getD 7 undef = .pointer (some ⟨gR, 0, none⟩) := (hO 7 (out_get (by kernel_rfl))).trans rfl
          simp only [Array.getD_eq_getD_getElem?] at e0
          have X := boxed (HRb u lu)
          have luu : Later u u := Later.refl
          rw [if_pos (by rfl)]
          go_simp
          exact hK _ _ Later.refl rfl
        · intro hne hne2 a u lu hN hO K hK
          (try simp only [Nat.zero_add, Nat.reduceAdd] at hN hK)
          have e0 : a.tmps.getD 15 undef = fleetV A c V g := hN 1 (needs_get (by kernel_rfl))
          simp only [Array.getD_eq_getD_getElem?] at e0
          have e1 : a.tmps.getD 17 undef = .int .i64 v.machine := hN 3 (needs_get (by kernel_rfl))
          simp only [Array.getD_eq_getD_getElem?] at e1
          have e2 : a.tmps.getD 19 undef = .int .i64 x.dst := hN 5 (needs_get (by kernel_rfl))
          simp only [Array.getD_eq_getD_getElem?] at e2
          have e3 : a.tmps.getD 20 undef = r.v := hN 6 (needs_get (by kernel_rfl))
          simp only [Array.getD_eq_getD_getElem?] at e3
          rw [if_pos (by rfl)]
          go_simp
          refine (hcalls u (hBU u lu)).mono ?_
          rintro q u' ⟨rfl, hb⟩
          exact hK _ _ ⟨hb⟩ rfl
        · intro hne hne2 a u lu hN hO K hK
          (try simp only [Nat.zero_add, Nat.reduceAdd] at hN hK)
          have e0 : a.tmps.getD 21 undef = val.v := hN 7 (needs_get (by kernel_rfl))
          simp only [Array.getD_eq_getD_getElem?] at e0
          rw [if_pos (by rfl)]
          go_simp
          exact hK _ _ inferInstance ⟨u.heap.size, lu.size, rfl, heap_alloc_new _ _⟩
        · intro hne hne2 a u lu hN hO K hK
          (try simp only [Nat.zero_add, Nat.reduceAdd] at hN hK)
          exact absurd rfl hne2
        · intro hne hne2 a u lu hN hO K hK
          (try simp only [Nat.zero_add, Nat.reduceAdd] at hN hK)
          exact absurd rfl hne
      · intro op hop
        simp only [List.getElem?_toArray, List.getElem?_cons_succ, List.getElem?_cons_zero] at hop
        injection hop with hop
        subst hop
        intro a u lu hst hN hO K hK
        have e1 : a.tmps.getD 14 undef = .slice OA q'.length OC := hN 0 (needs_get (by kernel_rfl))
        obtain ⟨gq, hgB, e4, hq⟩ : ∃ g, w3.heap.size ≤ g ∧ a.tmps.getD 22 undef = .slice (some ⟨g, 0, none⟩) 1 1 ∧ u.heap[g]? = some (.cells val.arr 24 (0, 0)) := hN 8 (needs_get (by kernel_rfl))
        refine step_app2 (P := Tryz.prog) rfl (.tmp 14) (.tmp 22) (by rfl) IDE.enc idT _ _ [val] q' (.slice OA q'.length OC) e1 e4 (m := 1) (n := q'.length + 1) rfl rfl hst (blk_slAt IDE.enc (fr := (0, 0)) (e := 24) hq [val] rfl) (by omega) (by unfold maxLen; omega) (Nat.le_trans hz3 lu.size) ?_
        intro A' c' u' ho' hm' hst'
        exact hK _ u' (by rw [hrowe]; exact hst'.1) trivial ⟨A', c', rfl, ho'⟩
      intro op hop a u hI K hK
      simp only [List.getElem?_toArray, List.getElem?_cons_succ, List.getElem?_cons_zero] at hop
      injection hop with hop
      subst hop
      have e6 : a.tmps.getD 1 undef = .pointer (some ⟨gO, 0, none⟩) := (hI.out 1 (out_get (by kernel_rfl))).trans rfl
      obtain ⟨A', c', e5, ho5⟩ : ∃ A' c', a.tmps.getD 23 undef = .slice A' (q'.length + 1) c' ∧ Own IDE.cells 2 24 W0.heap.size u (.slice A' (q'.length + 1) c') (q' ++ [val]) := hI.st
      have hgu := hI.grown
      have hdf : a.defers = [] := hI.defers.trans rfl
      have luu : Later u u := Later.refl
      have XO := boxed (HO u hgu)
      simp only [Array.getD_eq_getD_getElem?] at e5 e6
      rw [if_pos (by rfl)]
      go_simp
      refine hK _ _ ?_
      have hTm := tmps_of (L := [14, 15, 16, 17, 18, 19, 20, 21, 22, 23]) hI.size (fun t ht => hI.out t (fun hm => ht hm))
      clear hK K e5 e6 hI
      obtain ⟨atm, adf⟩ := a
      dsimp only at hTm hdf
      subst hdf
      simp only [List.foldl_cons, List.foldl_nil, List.setIfInBounds_toArray, List.set_cons_succ, List.set_cons_zero] at hTm
      generalize atm.getD 14 undef = v0 at hTm
      generalize atm.getD 15 undef = v1 at hTm
      generalize atm.getD 16 undef = v2 at hTm
      generalize atm.getD 17 undef = v3 at hTm
      generalize atm.getD 18 undef = v4 at hTm
      generalize atm.getD 19 undef = v5 at hTm
      generalize atm.getD 20 undef = v6 at hTm
      generalize atm.getD 21 undef = v7 at hTm
      generalize atm.getD 22 undef = v8 at hTm
      generalize atm.getD 23 undef = v9 at hTm
      subst hTm
      obtain ⟨E1, E2⟩ := out_end bO3 hfo3 hrowe hgu ho5 hz3 hgO
      go_wp2_with fail
      go_roundw
      case rel => exact ⟨k + 1, q' ++ [val], by omega, by go_num, hide (by rw [hq.out, hT.out, List.map_append, ← Hval.out, List.append_assoc]; rfl), hide (by rw [List.length_append, hqk.out]; rfl), E1, hk3.trans E2⟩
      case measure => simp [intOf]; omega
    · have hk'' : k = l.length := by omega
      subst hk''
      rw [List.take_length] at hq
      have hq2 := hq.out
      go_wp2_with fail
      refine ⟨rfl, _, results_none rfl _ _ _, rfl, ?_, hk'⟩
      rw [← hq2]
      exact hO'
end Go.Proofs.YtpkfenlfgdbkcaaGreatDoor

/-
  Contracts of the functions of this seat that each theorem names: what a call returns, and that it writes nothing that was there before. The conditions stand in each theorem.
-/
import Derived.Test.YtpkfenlfgdbkcaaGreatDoorP59R3
import Derived.Test.YtpkfenlfgdbkcaaGreatDoorP59Graph
set_option linter.unusedSimpArgs false
set_option linter.unusedVariables false
namespace Go.Proofs.YtpkfenlfgdbkcaaGreatDoor
open Go.RowKit
attribute [local go_sem] Oper.semAt_some Instr.makeFunc
attribute [local simp] heap_drew
attribute [local go_sem ↓] load_view_pre load_flight_pre load_msg_pre store_view_pre store_flight_pre store_msg_pre load_scion_pre store_scion_pre
attribute [local go_sem] load_view load_flight load_msg store_view store_flight store_msg load_scion store_scion view_isRow zero_isRow scion_isRow zeroS_isRow rowFree_new setRow_new view_arr0 view_arr2 view_arr3 view_arr4 view_arr5 view_arr6 view_arr9 view_arr10 flight_arr0 flight_arr1 flight_arr2 flight_arr3 flight_arr6 flight_arr7 flight_arr8 flight_arr9 flight_arr10 flight_arr11 flight_arr12 flight_arr13 flight_arr17 flight_arr18 flight_arr19 flight_arr20 flight_arr21 flight_arr22 flight_arr23 flight_arr24 flight_arr25 msg_arr0 msg_arr1 msg_arr4 msg_arr5 msg_arr6 msg_arr7 msg_arr8 msg_arr9 msg_arr10 msg_arr11 msg_arr15 msg_arr16 msg_arr17 msg_arr18 msg_arr19 msg_arr20 msg_arr21 msg_arr22 msg_arr23
attribute [local go_sem ↓] run_eql_id run_neq_id
theorem nodeRow : Tryz.prog.underlying 41 = some (.struct (Tryz.prog.fieldsOf 41)) := by kernel_rfl
theorem nodeN : (Tryz.prog.info? 41).map (·.size) = some 5 := by kernel_rfl
def MovedPost (V : List ViewE) (frm : Int) (x : FlightE) (w : World) (r : Ending) (w' : World) : Prop := ∃ (l : List ValE) (A : Option Addr) (c : Nat), Hid (l = x.msg.parcel.fields.map (refVal V frm x.dst)) ∧
  r = .returned (.agg #[.int .i64 x.msg.parcel.iM, .int .i64 x.msg.parcel.iS, .int .i64 x.msg.parcel.kind, .int .i64 x.msg.parcel.clas, .slice A l.length c]) ∧ Own ValE.cells 4 100 w.heap.size w' (.slice A l.length c) l ∧ Below w.heap.size w w'
set_option maxRecDepth 200000 in
set_option maxHeartbeats 8000000 in
theorem refMoved_any (A : Option Addr) (c : Nat) (V : List ViewE) (frm : Int) (x : FlightE) (w : World) (H : ViewsAt w A V) (hf : FewV V) (hx : FlightOk w x) (hfx : FewF x) :
    Calls Tryz.prog 56 #[.slice A V.length c, .int .i64 frm, x.v] w (MovedPost V frm x w) := by
  have HV := H.later
  have hxo := hx.later
  have hp6 := hfx.p
  obtain ⟨fA, hfA⟩ : ∃ fA, x.msg.parcel.fA = fA := ⟨_, rfl⟩
  go_enter Tryz.func56, Tryz.ntmps56
  go_upto_region 1 with fail
  refine wp_name ?_
  intro w0 hw0
  have hz0 : w0.heap.size = w.heap.size + 1 + 1 := by rw [← hw0]; simp
  have b5 : w0.heap[w.heap.size]? = some (.cells x.arr 87 (0, 0)) := (by rw [← hw0]; simp only [heap_alloc_if, World.size_alloc]; repeat (first | rw [if_pos trivial] | rw [if_neg (by omega)] | rw [if_pos (by omega)]); try rfl)
  have b6 : w0.heap[w.heap.size + 1]? = some (.cells #[.int .i64 0, .int .i64 0, .int .i64 0, .int .i64 0, .slice none 0 0] 41 (0, 0)) := (by rw [← hw0]; simp only [heap_alloc_if, World.size_alloc]; repeat (first | rw [if_pos trivial] | rw [if_neg (by omega)] | rw [if_pos (by omega)]); try rfl)
  have hb0 : Below w.heap.size w w0 := by rw [← hw0]; exact (by repeat (first | with_reducible exact Below.refl _ _ | (with_reducible refine Below.drew ?_) | (with_reducible refine below_drewN ?_ _) | (with_reducible refine Below.alloc ?_ ?_ _; rotate_left; (first | omega | (simp <;> omega))) | (with_reducible refine Below.setCell ?_ ?_ _; rotate_left; (first | omega | (simp <;> omega)))))
  clear hw0
  have l00 : Later w0 w0 := Later.refl
  have lw0 : Later w w0 := ⟨hb0⟩
  have BX := boxed b5
  have hx0 := hxo w0
  go_upto_region 3 with fail
  refine wp_name ?_
  intro w3 hw3
  have bP3 : w3.heap[w0.heap.size]? = some (.cells #[.int .u64 x.msg.parcel.number, .int .i64 x.msg.parcel.iM, .int .i64 x.msg.parcel.iS, .int .i64 x.msg.parcel.kind, .int .i64 x.msg.parcel.clas, .slice fA x.msg.parcel.fields.length x.msg.parcel.fc, .slice x.msg.parcel.mA x.msg.parcel.mail.length x.msg.parcel.mc, .slice x.msg.parcel.wA x.msg.parcel.wn x.msg.parcel.wc] 76 (0, 0)) := (by rw [← hw3]; simp only [heap_alloc_if, World.size_alloc]; repeat (first | rw [if_pos trivial] | rw [if_neg (by omega)] | rw [if_pos (by omega)]); try rfl)
  have bN3 : w3.heap[w0.heap.size + 1]? = some (.cells #[.int .i64 x.msg.parcel.iM, .int .i64 x.msg.parcel.iS, .int .i64 x.msg.parcel.kind, .int .i64 x.msg.parcel.clas, .slice none 0 0] 41 (0, 0)) := (by rw [← hw3]; simp only [heap_alloc_if, World.size_alloc]; repeat (first | rw [if_pos trivial] | rw [if_neg (by omega)] | rw [if_pos (by omega)]); try rfl)
  have hb3 : Below w0.heap.size w0 w3 := by rw [← hw3]; exact (by repeat (first | with_reducible exact Below.refl _ _ | (with_reducible refine Below.drew ?_) | (with_reducible refine below_drewN ?_ _) | (with_reducible refine Below.alloc ?_ ?_ _; rotate_left; (first | omega | (simp <;> omega))) | (with_reducible refine Below.setCell ?_ ?_ _; rotate_left; (first | omega | (simp <;> omega)))))
  clear hw3 BX
  have l33 : Later w3 w3 := Later.refl
  rw [hz0] at bP3 bN3
  have hge7 : w0.heap.size ≤ w.heap.size + 1 + 1 := by omega
  have hge8 : w0.heap.size ≤ w.heap.size + 1 + 1 + 1 := by omega
  have h78 : w.heap.size + 1 + 1 ≠ w.heap.size + 1 + 1 + 1 := by omega
  have hle5 : w.heap.size < w0.heap.size := by omega
  have hle6 : w.heap.size ≤ w.heap.size + 1 := by omega
  have hlt6 : w.heap.size + 1 < w0.heap.size := by omega
  obtain ⟨g8, hg8⟩ : ∃ y, y = w.heap.size + 1 + 1 + 1 := ⟨_, rfl⟩
  rw [← hg8] at bN3 hge8 h78 ⊢
  obtain ⟨g7, hg7⟩ : ∃ y, y = w.heap.size + 1 + 1 := ⟨_, rfl⟩
  rw [← hg7] at bP3 hge7 h78 ⊢
  obtain ⟨g6, hg6⟩ : ∃ y, y = w.heap.size + 1 := ⟨_, rfl⟩
  rw [← hg6] at b6 hle6 hlt6 ⊢
  obtain ⟨g5, hg5⟩ : ∃ y, y = w.heap.size := ⟨_, rfl⟩
  rw [← hg5] at b5
  clear hg8 hg7 hg6 hz0
  have hfld := (hx0.p.f)
  rw [hfA] at hfld
  go_wp2_with fail
  rw [← hg5]
  have Hg5 := hide hg5
  clear hg5
  go_loopw [9] (fun iv wr => ∃ (j : Nat) (fs : List ValE) (FA : Option Addr) (FC : Nat), j ≤ x.msg.parcel.fields.length ∧ iv = .int .i64 j ∧ Hid (fs = (x.msg.parcel.fields.take j).map (refVal V frm x.dst)) ∧ Hid (fs.length = j) ∧ wr.heap[g7]? = some (.cells #[.int .u64 x.msg.parcel.number, .int .i64 x.msg.parcel.iM, .int .i64 x.msg.parcel.iS, .int .i64 x.msg.parcel.kind, .int .i64 x.msg.parcel.clas, .slice fA x.msg.parcel.fields.length x.msg.parcel.fc, .slice x.msg.parcel.mA x.msg.parcel.mail.length x.msg.parcel.mc, .slice x.msg.parcel.wA x.msg.parcel.wn x.msg.parcel.wc] 76 (0, 0)) ∧ wr.heap[g8]? = some (.cells #[.int .i64 x.msg.parcel.iM, .int .i64 x.msg.parcel.iS, .int .i64 x.msg.parcel.kind, .int .i64 x.msg.parcel.clas, .slice FA fs.length FC] 41 (0, 0)) ∧ Own ValE.cells 4 100 w0.heap.size wr (.slice FA fs.length FC) fs ∧ Below w0.heap.size w0 wr) (fun iv _ => x.msg.parcel.fields.length - (intOf iv).toNat)
  case atStart => exact ⟨0, [], none, 0, by omega, rfl, hide (by simp), hide rfl, bP3, bN3, Own.nil, hb3⟩
  case round =>
    clear bP3 bN3
    obtain ⟨j, fs, FA, FC, hj, rfl, hfs, hfl, bP, bN, hfo, hbr⟩ := hrel
    have lrr : Later wr wr := Later.refl
    have l0r : Later w0 wr := ⟨hbr⟩
    have bX := blk_below b5 hbr
    by_cases hlt : j < x.msg.parcel.fields.length
    · obtain ⟨rb, ro, r, hrA, hr, RC⟩ := RefE.get hfld hlt
      subst hrA
      have hji : (j : Int) < (x.msg.parcel.fields.length : Int) := by omega
      have hT := hide (take_snoc_get hr)
      clear hr
      have hcalls : ∀ u, Below w0.heap.size w0 u → Calls Tryz.prog 88 #[.slice A V.length c, .int .i64 frm, .int .i64 x.dst, r.v] u (ValPost V frm x.dst r u) := fun u hu => by haveI : Later w0 u := ⟨hu⟩; haveI := lw0.trans ‹Later w0 u›; exact refValue_any A c V frm x.dst r u (HV u) hf
      obtain ⟨val, hval⟩ : ∃ y, refVal V frm x.dst r = y := ⟨_, rfl⟩
      unfold ValPost at hcalls
      rw [hval] at hcalls
      have Hval := hide hval
      have hfl5 : fs.length ≤ 6 := by rw [hfl.out]; omega
      clear hval
      have BN0 := boxed bN
      have BP0 := boxed bP
      go_upto_region 6 with fail
      clear BN0 BP0
      refine wp_name ?_
      intro w3 hw3
      have hb3 : Below wr.heap.size wr w3 := by rw [← hw3]; exact (by repeat (first | with_reducible exact Below.refl _ _ | (with_reducible refine Below.drew ?_) | (with_reducible refine below_drewN ?_ _) | (with_reducible refine Below.alloc ?_ ?_ _; rotate_left; (first | omega | (simp <;> omega))) | (with_reducible refine Below.setCell ?_ ?_ _; rotate_left; (first | omega | (simp <;> omega)))))
      clear hw3
      have hbW3 : Below w0.heap.size w0 w3 := hbr.trans (hb3.mono hbr.size)
      have bN3 := blk_below bN hb3
      have bP3 := blk_below bP hb3
      have bX3 := blk_below bX hb3
      have hfo3 := hfo.below hb3
      obtain ⟨row, hrowe⟩ : ∃ q, q = (Value.slice FA fs.length FC).ownBlock := ⟨_, rfl⟩
      have hrow : ∀ k, row = some k → k < w3.heap.size := fun k hk => (World.ownsRow.lt hfo3 k (hrowe ▸ hk)).2
      have hrowB : ∀ k, row = some k → w0.heap.size ≤ k := fun k hk => (World.ownsRow.lt hfo3 k (hrowe ▸ hk)).1
      have hOld : ∀ u, w3.drew.grownBy u row → ∀ (k : Nat) (cs : Array Value) (t : TypeId), w3.heap[k]? = some (.cells cs t (0, 0)) → 100 ≠ t → u.heap[k]? = some (.cells cs t (0, 0)) := fun u hu k cs t hk ht => (hu.block k (blk_lt hk) (fun e => own_off hfo3 hk ht (by rw [← hrowe]; exact e.symm))).trans hk
      have HN : ∀ u, w3.drew.grownBy u row → u.heap[g8]? = _ := fun u hu => hOld u hu _ _ _ bN3 (by decide)
      have HPb : ∀ u, w3.drew.grownBy u row → u.heap[g7]? = _ := fun u hu => hOld u hu _ _ _ bP3 (by decide)
      have HXb : ∀ u, w3.drew.grownBy u row → u.heap[g5]? = _ := fun u hu => hOld u hu _ _ _ bX3 (by decide)
      have hBU : ∀ u, w3.drew.grownBy u row → Below w0.heap.size w0 u := fun u hu => hbW3.drew.grown hu (by exact hbW3.size) hrowB
      refine wp_region_invA (last := 15) (ap := 13) (row := row) (by kernel_rfl) (R := specRA [.is (.pointer (some ⟨g8, 4, none⟩)), .is (.slice FA fs.length FC), .is (.slice A V.length c), .is (.int .i64 frm), .is (.pointer (some ⟨g5, 0, none⟩)), .is (.int .i64 x.dst), .is (.pointer (some ⟨g7, 5, none⟩)), .is (.slice (some ⟨rb, ro, none⟩) x.msg.parcel.fields.length x.msg.parcel.fc), .is (.int .i64 j), .is (.pointer (some ⟨rb, ro + j * 8, none⟩)), .is r.v, .is val.v, SpecA.blk hrow (fun g => .slice (some ⟨g, 0, none⟩) 1 1) val.arr 100, .any, .is (.pointer (some ⟨g8, 4, none⟩))]) (J := appV w0.heap.size fs val FA FC) (specRA_mono (B := w3.heap.size) (row := row) _) (appV_mono _ _ _ _ _) (by kernel_rfl) (by kernel_rfl) (by kernel_rfl) (Own.below hfo3 (Below.refl _ _).drew) (steps_all ?_) ?_ ?_ (fun h => absurd h (by decide))
      · refine ⟨?_, ?_, ?_, ?_, ?_, ?_, ?_, ?_, ?_, ?_, ?_, ?_, ?_, ?_, ?_, ?_, trivial⟩
        · intro hne hne2 a u lu hN hO K hK
          (try simp only [Nat.zero_add, Nat.reduceAdd] at hN hK)
          have e0 : a.tmps.getD 8 undef = .pointer (some ⟨g8, 0, none⟩) := (hO 8 (out_get (by kernel_rfl))).trans rfl
          simp only [Array.getD_eq_getD_getElem?] at e0
          rw [if_pos (by rfl)]
          go_simp
          exact hK _ _ Later.refl rfl
        · intro hne hne2 a u lu hN hO K hK
          (try simp only [Nat.zero_add, Nat.reduceAdd] at hN hK)
          have e0 : a.tmps.getD 27 undef = .pointer (some ⟨g8, 4, none⟩) := hN 0 (needs_get (by kernel_rfl))
          simp only [Array.getD_eq_getD_getElem?] at e0
          have X := boxed (HN u lu)
          have luu : Later u u := Later.refl
          rw [if_pos (by rfl)]
          go_simp
          exact hK _ _ Later.refl rfl
        · intro hne hne2 a u lu hN hO K hK
          (try simp only [Nat.zero_add, Nat.reduceAdd] at hN hK)
          have e0 : a.tmps.getD 0 undef = .slice A V.length c := (hO 0 (out_get (by kernel_rfl))).trans rfl
          simp only [Array.getD_eq_getD_getElem?] at e0
          rw [if_pos (by rfl)]
          go_simp
          exact hK _ _ Later.refl rfl
        · intro hne hne2 a u lu hN hO K hK
          (try simp only [Nat.zero_add, Nat.reduceAdd] at hN hK)
          have e0 : a.tmps.getD 1 undef = .int .i64 frm := (hO 1 (out_get (by kernel_rfl))).trans rfl
          simp only [Array.getD_eq_getD_getElem?] at e0
          rw [if_pos (by rfl)]
          go_simp
          exact hK _ _ Later.refl rfl
        · intro hne hne2 a u lu hN hO K hK
          (try simp only [Nat.zero_add, Nat.reduceAdd] at hN hK)
          have e0 : a.tmps.getD 5 undef = .pointer (some ⟨g5, 0, none⟩) := (hO 5 (out_get (by kernel_rfl))).trans rfl
          simp only [Array.getD_eq_getD_getElem?] at e0
          rw [if_pos (by rfl)]
          go_simp
          exact hK _ _ Later.refl rfl
        · intro hne hne2 a u lu hN hO K hK
          (try simp only [Nat.zero_add, Nat.reduceAdd] at hN hK)
          have e0 : a.tmps.getD 31 undef = .pointer (some ⟨g5, 0, none⟩) := hN 4 (needs_get (by kernel_rfl))
          simp only [Array.getD_eq_getD_getElem?] at e0
          have X := boxed (HXb u lu)
          have luu : Later u u := Later.refl
          rw [if_pos (by rfl)]
          go_simp
          exact hK _ _ Later.refl rfl
        · intro hne hne2 a u lu hN hO K hK
          (try simp only [Nat.zero_add, Nat.reduceAdd] at hN hK)
          have e0 : a.tmps.getD 7 undef = .pointer (some ⟨g7, 0, none⟩) := (hO 7 (out_get (by kernel_rfl))).trans rfl
          simp only [Array.getD_eq_getD_getElem?] at e0
          rw [if_pos (by rfl)]
          go_simp
          exact hK _ _ Later.refl rfl
        · intro hne hne2 a u lu hN hO K hK
          (try simp only [Nat.zero_add, Nat.reduceAdd] at hN hK)
          have e0 : a.tmps.getD 33 undef = .pointer (some ⟨g7, 5, none⟩) := hN 6 (needs_get (by kernel_rfl))
          simp only [Array.getD_eq_getD_getElem?] at e0
          have X := boxed (HPb u lu)
          have luu : Later u u := Later.refl
          rw [if_pos (by rfl)]
          go_simp
          exact hK _ _ Later.refl rfl
        · intro hne hne2 a u lu hN hO K hK
          (try simp only [Nat.zero_add, Nat.reduceAdd] at hN hK)
          have e0 : a.tmps.getD 9 undef = .int .i64 j := (hO 9 (out_get (by kernel_rfl))).trans rfl
          simp only [Array.getD_eq_getD_getElem?] at e0
          rw [if_pos (by rfl)]
          go_simp
          exact hK _ _ Later.refl rfl
        · intro hne hne2 a u lu hN hO K hK
          (try simp only [Nat.zero_add, Nat.reduceAdd] at hN hK)
          have e0 : a.tmps.getD 34 undef = .slice (some ⟨rb, ro, none⟩) x.msg.parcel.fields.length x.msg.parcel.fc := hN 7 (needs_get (by kernel_rfl))
          simp only [Array.getD_eq_getD_getElem?] at e0
          have e1 : a.tmps.getD 35 undef = .int .i64 j := hN 8 (needs_get (by kernel_rfl))
          simp only [Array.getD_eq_getD_getElem?] at e1
          rw [if_pos (by rfl)]
          go_simp
          exact hK _ _ Later.refl rfl
        · intro hne hne2 a u lu hN hO K hK
          (try simp only [Nat.zero_add, Nat.reduceAdd] at hN hK)
          have e0 : a.tmps.getD 36 undef = .pointer (some ⟨rb, ro + j * 8, none⟩) := hN 9 (needs_get (by kernel_rfl))
          simp only [Array.getD_eq_getD_getElem?] at e0
          haveI : Later w0 u := ⟨hBU u lu⟩
          have RCu := RC u
          rw [if_pos (by rfl)]
          go_simp
          exact hK _ _ Later.refl rfl
        · intro hne hne2 a u lu hN hO K hK
          (try simp only [Nat.zero_add, Nat.reduceAdd] at hN hK)
          have e0 : a.tmps.getD 29 undef = .slice A V.length c := hN 2 (needs_get (by kernel_rfl))
          simp only [Array.getD_eq_getD_getElem?] at e0
          have e1 : a.tmps.getD 30 undef = .int .i64 frm := hN 3 (needs_get (by kernel_rfl))
          simp only [Array.getD_eq_getD_getElem?] at e1
          have e2 : a.tmps.getD 32 undef = .int .i64 x.dst := hN 5 (needs_get (by kernel_rfl))
          simp only [Array.getD_eq_getD_getElem?] at e2
          have e3 : a.tmps.getD 37 undef = r.v := hN 10 (needs_get (by kernel_rfl))
          simp only [Array.getD_eq_getD_getElem?] at e3
          rw [if_pos (by rfl)]
          go_simp
          refine (hcalls u (hBU u lu)).mono ?_
          rintro q u' ⟨rfl, hb⟩
          exact hK _ _ ⟨hb⟩ rfl
        · intro hne hne2 a u lu hN hO K hK
          (try simp only [Nat.zero_add, Nat.reduceAdd] at hN hK)
          have e0 : a.tmps.getD 38 undef = val.v := hN 11 (needs_get (by kernel_rfl))
          simp only [Array.getD_eq_getD_getElem?] at e0
          rw [if_pos (by rfl)]
          go_simp
          exact hK _ _ inferInstance ⟨u.heap.size, lu.size, rfl, heap_alloc_new _ _⟩
        · intro hne hne2 a u lu hN hO K hK
          (try simp only [Nat.zero_add, Nat.reduceAdd] at hN hK)
          exact absurd rfl hne2
        · intro hne hne2 a u lu hN hO K hK
          (try simp only [Nat.zero_add, Nat.reduceAdd] at hN hK)
          have e0 : a.tmps.getD 8 undef = .pointer (some ⟨g8, 0, none⟩) := (hO 8 (out_get (by kernel_rfl))).trans rfl
          simp only [Array.getD_eq_getD_getElem?] at e0
          rw [if_pos (by rfl)]
          go_simp
          exact hK _ _ Later.refl rfl
        · intro hne hne2 a u lu hN hO K hK
          (try simp only [Nat.zero_add, Nat.reduceAdd] at hN hK)
          exact absurd rfl hne
      · intro op hop
        simp only [List.getElem?_toArray, List.getElem?_cons_succ, List.getElem?_cons_zero] at hop
        injection hop with hop
        subst hop
        intro a u lu hst hN hO K hK
        have e1 : a.tmps.getD 28 undef = .slice FA fs.length FC := hN 1 (needs_get (by kernel_rfl))
        obtain ⟨gq, hgB, e4, hq⟩ : ∃ g, w3.heap.size ≤ g ∧ a.tmps.getD 39 undef = .slice (some ⟨g, 0, none⟩) 1 1 ∧ u.heap[g]? = some (.cells val.arr 100 (0, 0)) := hN 12 (needs_get (by kernel_rfl))
        refine step_app2 (P := Tryz.prog) rfl (.tmp 28) (.tmp 39) (by rfl) ValE.enc valsT _ _ [val] fs (.slice FA fs.length FC) e1 e4 (m := 1) (n := fs.length + 1) rfl rfl hst (blk_slAt ValE.enc (fr := (0, 0)) (e := 100) hq [val] rfl) (by omega) (by unfold maxLen; omega) (Nat.le_trans hbW3.size lu.size) ?_
        intro A' c' u' ho' hm' hst'
        exact hK _ u' (by rw [hrowe]; exact hst'.1) trivial ⟨A', c', rfl, ho'⟩
      intro op hop a u hI K hK
      simp only [List.getElem?_toArray, List.getElem?_cons_succ, List.getElem?_cons_zero] at hop
      injection hop with hop
      subst hop
      have e6 : a.tmps.getD 41 undef = .pointer (some ⟨g8, 4, none⟩) := hI.got 14 (by decide) rfl
      obtain ⟨A', c', e5, ho5⟩ : ∃ A' c', a.tmps.getD 40 undef = .slice A' (fs.length + 1) c' ∧ Own ValE.cells 4 100 w0.heap.size u (.slice A' (fs.length + 1) c') (fs ++ [val]) := hI.st
      have hgu := hI.grown
      have hdf : a.defers = [] := hI.defers.trans rfl
      have luu : Later u u := Later.refl
      have hOu := HN u hgu
      have hPu := HPb u hgu
      have XO := boxed hOu
      have hBu := hBU u hgu
      simp only [Array.getD_eq_getD_getElem?] at e5 e6
      rw [if_pos (by rfl)]
      go_simp
      refine hK _ _ ?_
      have hTm := tmps_of (L := [27, 28, 29, 30, 31, 32, 33, 34, 35, 36, 37, 38, 39, 40, 41]) hI.size (fun t ht => hI.out t (fun hm => ht hm))
      clear hK K e5 e6 hI
      obtain ⟨atm, adf⟩ := a
      dsimp only at hTm hdf
      subst hdf
      simp only [List.foldl_cons, List.foldl_nil, List.setIfInBounds_toArray, List.set_cons_succ, List.set_cons_zero] at hTm
      generalize atm.getD 27 undef = v0 at hTm
      generalize atm.getD 28 undef = v1 at hTm
      generalize atm.getD 29 undef = v2 at hTm
      generalize atm.getD 30 undef = v3 at hTm
      generalize atm.getD 31 undef = v4 at hTm
      generalize atm.getD 32 undef = v5 at hTm
      generalize atm.getD 33 undef = v6 at hTm
      generalize atm.getD 34 undef = v7 at hTm
      generalize atm.getD 35 undef = v8 at hTm
      generalize atm.getD 36 undef = v9 at hTm
      generalize atm.getD 37 undef = v10 at hTm
      generalize atm.getD 38 undef = v11 at hTm
      generalize atm.getD 39 undef = v12 at hTm
      generalize atm.getD 40 undef = v13 at hTm
      generalize atm.getD 41 undef = v14 at hTm
      subst hTm
      go_wp2_with fail
      go_roundw
      case rel =>
        refine ⟨j + 1, fs ++ [val], A', c', by omega, by go_num, hide (by rw [hfs.out, hT.out, List.map_append, ← Hval.out]; rfl), hide (by rw [List.length_append, hfl.out]; rfl), ?_, ?_, ?_, hBu.setCell (p := ⟨g8, 4, none⟩) hge8 _⟩
        · exact (blk_far (p := ⟨g8, 4, none⟩) h78 _).trans hPu
        · have := blk_set hOu 4 (.slice A' (fs.length + 1) c')
          rw [List.length_append, List.length_singleton]
          exact this
        · rw [List.length_append, List.length_singleton]
          exact ho5.far (p := ⟨g8, 4, none⟩) (own_off ho5 hOu (by decide)) _
      case measure => simp [intOf]; omega
    · have hj' : j = x.msg.parcel.fields.length := by omega
      subst hj'
      rw [List.take_length] at hfs
      have BN := boxed bN
      have BP := boxed bP
      have b6r := blk_below b6 hbr
      have B6r := boxed b6r
      have hbw := lw0.below.trans (hbr.mono lw0.below.size)
      go_wp2_with fail
      have q := blk_set (blk_set (blk_set (blk_set (blk_set b6r 0 (.int .i64 x.msg.parcel.iM)) 1 (.int .i64 x.msg.parcel.iS)) 2 (.int .i64 x.msg.parcel.kind)) 3 (.int .i64 x.msg.parcel.clas)) 4 (.slice FA fs.length FC)
      refine bodyPost_ret (results_cell rfl rfl (loadVar_row nodeRow nodeN rfl q)) rfl ⟨fs, FA, FC, hfs, rfl, ?_, ?_⟩
      · exact (((((hfo.set (p := ⟨g6, 0, none⟩) hlt6 _).set (p := ⟨g6, 1, none⟩) hlt6 _).set (p := ⟨g6, 2, none⟩) hlt6 _).set (p := ⟨g6, 3, none⟩) hlt6 _).set (p := ⟨g6, 4, none⟩) hlt6 _).mono lw0.below.size
      · exact ((((hbw.setCell (p := ⟨g6, 0, none⟩) hle6 _).setCell (p := ⟨g6, 1, none⟩) hle6 _).setCell (p := ⟨g6, 2, none⟩) hle6 _).setCell (p := ⟨g6, 3, none⟩) hle6 _).setCell (p := ⟨g6, 4, none⟩) hle6 _
end Go.Proofs.YtpkfenlfgdbkcaaGreatDoor

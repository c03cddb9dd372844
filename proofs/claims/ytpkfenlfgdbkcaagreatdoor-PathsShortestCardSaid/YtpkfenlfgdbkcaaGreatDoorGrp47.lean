/-
  Small texts of this seat, put into one. Conditions stand in each theorem.
-/
import Derived.Test.YtpkfenlfgdbkcaaGreatDoorGPut21
import Derived.Test.YtpkfenlfgdbkcaaGreatDoorGrp34
import Derived.Test.YtpkfenlfgdbkcaaGreatDoorGrp32
import Derived.Test.YtpkfenlfgdbkcaaGreatDoorP59Del
import Derived.Test.YtpkfenlfgdbkcaaGreatDoorP59R3
import Derived.Deep.RegionHeld3
set_option linter.unusedSimpArgs false
set_option linter.unusedVariables false
namespace Go.Proofs.YtpkfenlfgdbkcaaGreatDoor
open Go.RowKit
attribute [local simp] heap_drew
theorem putPost_own {A0 : Option Addr} {c0 : Nat} {es : List IDE} {w w' : World} {base : Nat} {q : List IDE} {A : Option Addr} {c : Nat} (ho : Own IDE.cells 2 24 base w (.slice A0 es.length c0) es) (hb : base ≤ w.heap.size) (hbw : Below w.heap.size w w')
    (h : (A = A0 ∧ c = c0 ∧ q = es) ∨ Own IDE.cells 2 24 w.heap.size w' (.slice A q.length c) q) : Own IDE.cells 2 24 base w' (.slice A q.length c) q := by
  rcases h with ⟨rfl, rfl, rfl⟩ | h
  · exact ho.below hbw
  · exact h.mono hb
theorem setI_snoc {l : List IDE} {k : Nat} {y : IDE} (h : l[k]? = some y) : setI (l.take (k + 1)) = putI (setI (l.take k)) y := by
  unfold setI
  rw [take_snoc_get h, List.foldl_append]; rfl
theorem setI_lenA (l : List IDE) : (setI l).length ≤ l.length := nodup_len (setI_sorted l).nodup fun x h => setI_mem.1 h
set_option maxRecDepth 100000 in
set_option maxHeartbeats 4000000 in
theorem set21_any (A : Option Addr) (c : Nat) (l : List IDE) (w : World) (hs : SlAt IDE.cells 2 w A l) (hl : l.length ≤ 1000000) : Calls Tryz.prog 61 #[.slice A l.length c] w (SetIPost l w) := by
  go_enter Tryz.func61, Tryz.ntmps61
  go_upto_region 2 with fail
  refine wp_name ?_
  intro w1 hw1
  have ho1 : Own IDE.cells 2 24 w.heap.size w1 (.slice (some ⟨w.heap.size, 0, none⟩) 0 0) ([] : List IDE) := Own.empty_blk (Nat.le_refl _) (by rw [← hw1]; exact heap_alloc_new _ _)
  have hb1 : Below w.heap.size w w1 := by rw [← hw1]; exact (by repeat (first | with_reducible exact Below.refl _ _ | (with_reducible refine Below.drew ?_) | (with_reducible refine below_drewN ?_ _) | (with_reducible refine Below.alloc ?_ ?_ _; rotate_left; (first | omega | (simp <;> omega))) | (with_reducible refine Below.setCell ?_ ?_ _; rotate_left; (first | omega | (simp <;> omega)))))
  clear hw1
  go_wp2_with fail
  go_loopw [3, 4] (fun ov kv wr => ∃ (k : Nat) (q : List IDE) (QA : Option Addr) (QC : Nat), k ≤ l.length ∧ kv = .int .i64 k ∧ ov = .slice QA q.length QC ∧ Hid (q = setI (l.take k)) ∧ Own IDE.cells 2 24 w.heap.size wr (.slice QA q.length QC) q ∧ Below w.heap.size w wr) (fun _ kv _ => l.length - (intOf kv).toNat)
  case atStart => exact ⟨0, [], _, _, by omega, rfl, rfl, hide rfl, ho1, hb1⟩
  case round =>
    obtain ⟨k, q, QA, QC, hk, rfl, rfl, hq, hoq, hbr⟩ := hrel
    have lr := later hbr
    have lrr : Later wr wr := Later.refl
    have hql := hide (show q.length ≤ k by rw [hq.out]; exact Nat.le_trans (setI_lenA _) (by rw [List.length_take]; omega))
    by_cases hlt : k < l.length
    · have hki : (k : Int) < (l.length : Int) := by omega
      obtain ⟨y, hy⟩ : ∃ y, l[k]? = some y := ⟨_, List.getElem?_eq_getElem hlt⟩
      obtain ⟨b9, o9, rfl, C1, C2⟩ := id_at hs hy
      have Hs := hide (show setI (l.take (k + 1)) = putI q y by rw [hq.out]; exact setI_snoc hy)
      have HP : ∀ u [Later wr u], Calls Tryz.prog 95 #[.slice QA q.length QC, y.v] u (PutPost QA QC q (putI q y) u) := fun u i => put21_any QA QC q y u ((hoq.below i.below).at_ IDE.enc).2.2 (by have := hql.out; omega) (hoq.at_ IDE.enc).2.1 hoq.cap_le
      clear hy
      obtain ⟨y1, y2⟩ := y
      dsimp only [IDE.v] at C1 C2 HP
      go_wp2_with (go_at_call 95; refine (HP _).mono ?_; rintro r w3 ⟨q3, A3, c3, hq3, rfl, ho3, hb3⟩; have l3 := later hb3)
      go_roundw
      case rel => exact ⟨k + 1, q3, A3, c3, by omega, by go_num, rfl, hide (by rw [hq3.out]; exact Hs.out.symm), putPost_own hoq hbr.size hb3 ho3, hbr.trans (hb3.mono hbr.size)⟩
      case measure => simp [intOf]; omega
    · have hkk : k = l.length := by omega
      subst hkk
      go_wp2_with fail
      go_ret
      exact ⟨q, QA, QC, hide (by rw [hq.out, List.take_length]), rfl, hoq, hbr⟩
/-- What is in a and not in b. -/
def minI (a b : List IDE) : List IDE := setI (a.filter fun x => decide (x ∉ b))
theorem minI_mem {a b : List IDE} {x : IDE} : x ∈ minI a b ↔ x ∈ a ∧ x ∉ b := by unfold minI; rw [setI_mem, List.mem_filter]; simp
theorem minI_yes {a b : List IDE} {k : Nat} {y : IDE} (h : a[k]? = some y) (hy : y ∉ b) : minI (a.take (k + 1)) b = putI (minI (a.take k) b) y := by
  unfold minI setI
  rw [take_snoc_get h, List.filter_append, List.foldl_append]
  simp [hy]
theorem minI_no {a b : List IDE} {k : Nat} {y : IDE} (h : a[k]? = some y) (hy : y ∈ b) : minI (a.take (k + 1)) b = minI (a.take k) b := by
  unfold minI setI
  rw [take_snoc_get h, List.filter_append, List.foldl_append]
  simp [hy]
theorem minI_len (a b : List IDE) : (minI a b).length ≤ a.length := Nat.le_trans (setI_lenA _) (List.length_filter_le _ _)
def MinP (a b : List IDE) (w : World) (r : Ending) (w' : World) : Prop := ∃ q A c, Hid (q = minI a b) ∧ r = .returned (.slice A q.length c) ∧ Own IDE.cells 2 24 w.heap.size w' (.slice A q.length c) q ∧ Below w.heap.size w w'
set_option maxRecDepth 100000 in
set_option maxHeartbeats 4000000 in
theorem minus21_any (A : Option Addr) (c : Nat) (l : List IDE) (BA : Option Addr) (bc : Nat) (bl : List IDE) (w : World) (hs : SlAt IDE.cells 2 w A l) (hbs : SlAt IDE.cells 2 w BA bl) (hl : l.length ≤ 1000000) (hbl : bl.length ≤ 1000000) : Calls Tryz.prog 60 #[.slice A l.length c, .slice BA bl.length bc] w (MinP l bl w) := by
  have HH : ∀ (x : IDE) (u : World) [Later w u], Calls Tryz.prog 19 #[.slice BA bl.length bc, x.v] u fun r w' => r = .returned (.bool (decide (x ∈ bl))) ∧ Below u.heap.size u w' := fun x u j => has21_any BA bc bl x u (hbs.below j.below) (by omega)
  go_enter Tryz.func60, Tryz.ntmps60
  go_upto_region 2 with fail
  refine wp_name ?_
  intro w1 hw1
  have ho1 : Own IDE.cells 2 24 w.heap.size w1 (.slice (some ⟨w.heap.size, 0, none⟩) 0 0) ([] : List IDE) := Own.empty_blk (Nat.le_refl _) (by rw [← hw1]; exact heap_alloc_new _ _)
  have hb1 : Below w.heap.size w w1 := by rw [← hw1]; exact (by repeat (first | with_reducible exact Below.refl _ _ | (with_reducible refine Below.drew ?_) | (with_reducible refine below_drewN ?_ _) | (with_reducible refine Below.alloc ?_ ?_ _; rotate_left; (first | omega | (simp <;> omega))) | (with_reducible refine Below.setCell ?_ ?_ _; rotate_left; (first | omega | (simp <;> omega)))))
  clear hw1
  go_wp2_with fail
  go_loopw [5, 6] (fun ov kv wr => ∃ (k : Nat) (q : List IDE) (QA : Option Addr) (QC : Nat), k ≤ l.length ∧ kv = .int .i64 k ∧ ov = .slice QA q.length QC ∧ Hid (q = minI (l.take k) bl) ∧ Own IDE.cells 2 24 w.heap.size wr (.slice QA q.length QC) q ∧ Below w.heap.size w wr) (fun _ kv _ => l.length - (intOf kv).toNat)
  case atStart => exact ⟨0, [], _, _, by omega, rfl, rfl, hide rfl, ho1, hb1⟩
  case round =>
    obtain ⟨k, q, QA, QC, hk, rfl, rfl, hq, hoq, hbr⟩ := hrel
    have lr := later hbr
    have lrr : Later wr wr := Later.refl
    have hql := hide (show q.length ≤ k by rw [hq.out]; exact Nat.le_trans (minI_len _ _) (by rw [List.length_take]; omega))
    by_cases hlt : k < l.length
    · have hki : (k : Int) < (l.length : Int) := by omega
      obtain ⟨y, hy⟩ : ∃ y, l[k]? = some y := ⟨_, List.getElem?_eq_getElem hlt⟩
      obtain ⟨b9, o9, rfl, C1, C2⟩ := id_at hs hy
      have HHy := fun (u : World) (j : Later w u) => HH y u
      cases hmem : decide (y ∈ bl) with
      | true =>
        have Hs := hide (show minI (l.take (k + 1)) bl = q by rw [hq.out]; exact minI_no hy (of_decide_eq_true hmem))
        simp only [hmem] at HHy
        clear hy hmem
        obtain ⟨y1, y2⟩ := y
        dsimp only [IDE.v] at C1 C2 HHy
        go_wp2_with (go_at_call 19; refine (HHy _ inferInstance).mono ?_; rintro r w2 ⟨rfl, hb2⟩; have l2 := later hb2)
        go_roundw
        case rel => exact ⟨k + 1, q, QA, QC, by omega, by go_num, rfl, hide Hs.out.symm, hoq.below hb2, hbr.trans (hb2.mono hbr.size)⟩
        case measure => simp [intOf]; omega
      | false =>
        have Hs := hide (show minI (l.take (k + 1)) bl = putI q y by rw [hq.out]; exact minI_yes hy (of_decide_eq_false hmem))
        have HP : ∀ u [Later wr u], Calls Tryz.prog 95 #[.slice QA q.length QC, y.v] u (PutPost QA QC q (putI q y) u) := fun u i => put21_any QA QC q y u ((hoq.below i.below).at_ IDE.enc).2.2 (by have := hql.out; omega) (hoq.at_ IDE.enc).2.1 hoq.cap_le
        simp only [hmem] at HHy
        clear hy hmem
        obtain ⟨y1, y2⟩ := y
        dsimp only [IDE.v] at C1 C2 HHy HP
        go_upto_region 6 with (go_at_call 19; refine (HHy _ inferInstance).mono ?_; rintro r w2 ⟨rfl, hb2⟩; have l2 := later hb2)
        go_wp2_with (go_at_call 95; refine (HP _).mono ?_; rintro r w3 ⟨q3, A3, c3, hq3, rfl, ho3, hb3⟩; have l3 := later hb3)
        go_roundw
        case rel => exact ⟨k + 1, q3, A3, c3, by omega, by go_num, rfl, hide (by rw [hq3.out]; exact Hs.out.symm), putPost_own (hoq.below hb2) (Nat.le_trans hbr.size hb2.size) hb3 ho3, (hbr.trans (hb2.mono hbr.size)).trans (hb3.mono (Nat.le_trans hbr.size hb2.size))⟩
        case measure => simp [intOf]; omega
    · have hkk : k = l.length := by omega
      subst hkk
      go_wp2_with fail
      go_ret
      exact ⟨q, QA, QC, hide (by rw [hq.out, List.take_length]), rfl, hoq, hbr⟩
end Go.Proofs.YtpkfenlfgdbkcaaGreatDoor

namespace Go.Proofs.YtpkfenlfgdbkcaaGreatDoor
open Go.RowKit
attribute [local go_sem] Oper.semAt_some Instr.makeFunc
attribute [local simp] heap_drew
attribute [local go_sem ↓] load_view_pre load_flight_pre load_msg_pre store_view_pre store_flight_pre store_msg_pre load_scion_pre store_scion_pre
attribute [local go_sem] load_view load_flight load_msg store_view store_flight store_msg load_scion store_scion view_isRow zero_isRow scion_isRow zeroS_isRow rowFree_new setRow_new view_arr0 view_arr2 view_arr3 view_arr4 view_arr5 view_arr6 view_arr9 view_arr10 flight_arr0 flight_arr1 flight_arr2 flight_arr3 flight_arr6 flight_arr7 flight_arr8 flight_arr9 flight_arr10 flight_arr11 flight_arr12 flight_arr13 flight_arr17 flight_arr18 flight_arr19 flight_arr20 flight_arr21 flight_arr22 flight_arr23 flight_arr24 flight_arr25 msg_arr0 msg_arr1 msg_arr4 msg_arr5 msg_arr6 msg_arr7 msg_arr8 msg_arr9 msg_arr10 msg_arr11 msg_arr15 msg_arr16 msg_arr17 msg_arr18 msg_arr19 msg_arr20 msg_arr21 msg_arr22 msg_arr23
attribute [local go_sem ↓] run_eql_id run_neq_id
def IdsPost (l : List IDE) (w : World) (r : Ending) (w' : World) : Prop := ∃ q A c, Hid (q = l) ∧ r = .returned (.slice A q.length c) ∧ Own IDE.cells 2 24 w.heap.size w' (.slice A q.length c) q ∧ Below w.heap.size w w'
set_option maxRecDepth 100000 in
set_option maxHeartbeats 4000000 in
theorem refRefs_any (A : Option Addr) (c : Nat) (V : List ViewE) (frm dst : Int) (RA : Option Addr) (rc : Nat) (rl : List RefE) (w : World) (H : ViewsAt w A V) (hf : FewV V) (hs : SlAt RefE.cells 8 w RA rl) (hl : rl.length ≤ 1000) :
    Calls Tryz.prog 92 #[.slice A V.length c, .int .i64 frm, .int .i64 dst, .slice RA rl.length rc] w (IdsPost (rl.map (refId V frm dst)) w) := by
  have HV := H.later
  have HS : ∀ u [Later w u], SlAt RefE.cells 8 u RA rl := fun u i => hs.below i.below
  have hl' : rl.length ≤ 9223372036854775807 := by omega
  unfold IdsPost
  go_enter Tryz.func92, Tryz.ntmps92
  go_upto_region 2 with fail
  refine wp_name ?_
  intro w1 hw1
  have ho1 : Own IDE.cells 2 24 w.heap.size w1 (.slice (some ⟨w.heap.size, 0, none⟩) 0 0) ([] : List IDE) := Own.empty_blk (Nat.le_refl _) (by rw [← hw1]; exact heap_alloc_new _ _)
  have hb1 : Below w.heap.size w w1 := by rw [← hw1]; exact (by repeat (first | with_reducible exact Below.refl _ _ | (with_reducible refine Below.drew ?_) | (with_reducible refine below_drewN ?_ _) | (with_reducible refine Below.alloc ?_ ?_ _; rotate_left; (first | omega | (simp <;> omega))) | (with_reducible refine Below.setCell ?_ ?_ _; rotate_left; (first | omega | (simp <;> omega)))))
  clear hw1
  go_wp2_with fail
  go_loopw [9, 10] (fun ov kv wr => ∃ (k : Nat) (q : List IDE) (QA : Option Addr) (QC : Nat), k ≤ rl.length ∧ kv = .int .i64 k ∧ ov = .slice QA q.length QC ∧ Hid (q = (rl.take k).map (refId V frm dst)) ∧ Hid (q.length = k) ∧ Own IDE.cells 2 24 w.heap.size wr (.slice QA q.length QC) q ∧ Below w.heap.size w wr) (fun _ kv _ => rl.length - (intOf kv).toNat)
  case atStart => exact ⟨0, [], _, _, by omega, rfl, rfl, hide rfl, hide rfl, ho1, hb1⟩
  clear ho1 hb1
  case round =>
    obtain ⟨k, q, QA, QC, hk, rfl, rfl, hq, hqk, hoq, hbr⟩ := hrel
    have lrr : Later wr wr := Later.refl
    have lwr : Later w wr := ⟨hbr⟩
    have hql : q.length ≤ 1000 := by rw [hqk.out]; omega
    by_cases hlt : k < rl.length
    rotate_left
    · have hkk : k = rl.length := by omega
      subst hkk
      rw [List.take_length] at hq
      go_wp2_with fail
      go_ret
      exact ⟨q, QA, QC, hq, rfl, hoq, hbr⟩
    have hki : (k : Int) < (rl.length : Int) := by omega
    obtain ⟨rb, ro, r, rfl, hr, RC⟩ := RefE.get (HS wr) hlt
    have hT := hide (take_snoc_get hr)
    clear hr
    have hcall : ∀ u [Later w u], Calls Tryz.prog 94 #[.slice A V.length c, .int .i64 frm, .int .i64 dst, r.v] u (IdPost V frm dst r u) := fun u i => refRefID_any A c V frm dst r u (HV u) hf
    obtain ⟨val, hval⟩ : ∃ y, refId V frm dst r = y := ⟨_, rfl⟩
    unfold IdPost at hcall
    rw [hval] at hcall
    have hq' := hide (show q ++ [val] = (rl.take (k + 1)).map (refId V frm dst) by rw [hT.out, List.map_append, ← hq.out, ← hval]; rfl)
    clear hval
    go_wp2_with (first
      | (go_at_call 94; refine (hcall _).mono ?_; rintro r w6 ⟨rfl, hb6⟩; have l6 := later hb6)
      | (at_builtin; refine wpList_app1 rfl (.tmp 18) (.tmp 27) rfl IDE.enc idT val rfl rfl rfl (hoq.later _) (by rfl) (by omega) (by unfold maxLen; omega) (Nat.le_trans hbr.size (show Below wr.heap.size wr _ from below_of).size) ?_; intro A9 c9 w9 ho9 hm9 hb9 hg9 hat9; have hb9w : Below w.heap.size w w9 := (show Below w.heap.size w _ from below_of).trans hb9))
    have hlk : (q ++ [val]).length = q.length + 1 := by simp
    go_roundw
    case rel => exact ⟨k + 1, q ++ [val], A9, c9, by omega, by go_num, by rw [hlk], hq', hide (by rw [hlk, hqk.out]), by rw [hlk]; exact ho9, hb9w⟩
    case measure => simp [intOf]; omega
end Go.Proofs.YtpkfenlfgdbkcaaGreatDoor

/-
  Small texts of this seat, put into one. Conditions stand in each theorem.
-/
import Derived.Test.YtjegncmkebbdfaaGreatDoorGrp53
set_option linter.unusedSimpArgs false
set_option linter.unusedVariables false
namespace Go.Proofs.YtjegncmkebbdfaaGreatDoor
open Go.RowKit
attribute [local simp] heap_drew
attribute [local go_sem ↓] run_eql_id run_neq_id
attribute [local go_sem] Instr.makeFunc
theorem W64.get {w : World} {A : Option Addr} {l : List Int} (h : SlAt W64.cells 1 w A l) {k : Nat} (hk : k < l.length) : ∃ b o x, A = some ⟨b, o, none⟩ ∧ l[k]? = some x ∧ ∀ u [Later w u], u.cell? ⟨b, o + k, none⟩ = some (.int .u64 x) := by
  obtain ⟨b, o, x, hA, -, hx, hc⟩ := h.at_ hk
  refine ⟨b, o, x, hA, hx, fun u i => ?_⟩
  have := cell_below (hc 0 _ rfl) i.below
  simpa using this
set_option maxHeartbeats 2000000 in
theorem halloc1_any {base b1 : Nat} {w : World} {P : HpE} (v : Int) (H : HpAt base w P) (hv : ValW P.M.ws v) (h1 : w.heap[b1]? = some (.cells #[.pointer (some ⟨P.gh, 0, none⟩)] 37 (0, 0))) : Calls Tryz.prog 67 #[.int .u64 v, .pointer (some ⟨b1, 0, none⟩)] w fun r w' => r = .returned (.bool false) ∧ Below w.heap.size w w' := by
  have HV : ∀ u [Later w u], Calls Tryz.prog 68 #[spP P.gh, .int .u64 v] u fun r w' => r = .returned (.bool true) ∧ Below u.heap.size u w' := fun u _ => value_any v (H.later u) hv
  have B1 := boxed h1
  clear H hv h1
  have lww : Later w w := Later.refl
  go_enter Tryz.func67, Tryz.ntmps67
  go_wp2_with (go_at_call 68; refine (HV _).mono ?_; rintro r w1 ⟨rfl, hb1⟩; have l1 := later hb1)
  go_ret
  exact ⟨rfl, below_of⟩
set_option maxRecDepth 100000 in
set_option maxHeartbeats 4000000 in
theorem index67_any {w : World} {b1 fc : Nat} {FA : Option Addr} (fl : List Int) (hs : SlAt W64.cells 1 w FA fl) (hl : fl.length ≤ 1000) (HC : ∀ v ∈ fl, ∀ u [Later w u], Calls Tryz.prog 67 #[.int .u64 v, .pointer (some ⟨b1, 0, none⟩)] u fun r w' => r = .returned (.bool false) ∧ Below u.heap.size u w') :
    Calls Tryz.prog 119 #[.slice FA fl.length fc, .func (.func 67) #[] #[.pointer (some ⟨b1, 0, none⟩)]] w fun r w' => r = .returned (.int .i64 (-1)) ∧ Below w.heap.size w w' := by
  have lww : Later w w := Later.refl
  go_enter Tryz.func119, Tryz.ntmps119
  go_wp2_with fail
  go_loopw [8] (fun kv wr => ∃ k : Nat, k ≤ fl.length ∧ kv = .int .i64 k ∧ Below w.heap.size w wr) (fun kv _ => fl.length - (intOf kv).toNat)
  case atStart => exact ⟨0, by omega, rfl, Below.refl _ _⟩
  case round =>
    obtain ⟨k, hk, rfl, hbr⟩ := hrel
    have lwr : Later w wr := ⟨hbr⟩
    have lrr : Later wr wr := Later.refl
    by_cases hlt : k < fl.length
    rotate_left
    · have hk' : k = fl.length := by omega
      go_wp2_with fail
      go_ret
      exact ⟨rfl, below_of⟩
    obtain ⟨gb, o, v, rfl, hv, hc⟩ := W64.get hs hlt
    have hki : (k : Int) < (fl.length : Int) := by omega
    have HCv := HC v (List.mem_of_getElem? hv)
    clear hv HC
    go_wp2_with (go_at_call 67; refine (HCv _).mono ?_; rintro r w1 ⟨rfl, hb1⟩; have l1 := later hb1)
    go_roundw
    case rel => exact ⟨k + 1, by omega, by go_num, below_of⟩
    case measure => simp [intOf]; omega
set_option maxHeartbeats 4000000 in
theorem contains67_any {w : World} {b1 fc : Nat} {FA : Option Addr} (fl : List Int) (hs : SlAt W64.cells 1 w FA fl) (hl : fl.length ≤ 1000) (HC : ∀ v ∈ fl, ∀ u [Later w u], Calls Tryz.prog 67 #[.int .u64 v, .pointer (some ⟨b1, 0, none⟩)] u fun r w' => r = .returned (.bool false) ∧ Below u.heap.size u w') :
    Calls Tryz.prog 70 #[.slice FA fl.length fc, .func (.func 67) #[] #[.pointer (some ⟨b1, 0, none⟩)]] w fun r w' => r = .returned (.bool false) ∧ Below w.heap.size w w' := by
  have HI : ∀ u [Later w u], Calls Tryz.prog 119 #[.slice FA fl.length fc, .func (.func 67) #[] #[.pointer (some ⟨b1, 0, none⟩)]] u fun r w' => r = .returned (.int .i64 (-1)) ∧ Below u.heap.size u w' := fun u i =>
    index67_any fl (hs.below i.below) hl (fun v hv u2 j => by haveI := i.trans j; exact HC v hv u2)
  clear hs HC
  have lww : Later w w := Later.refl
  go_enter Tryz.func70, Tryz.ntmps70
  go_wp2_with (go_at_call 119; refine (HI _).mono ?_; rintro r w1 ⟨rfl, hb1⟩; have l1 := later hb1)
  go_ret
  exact ⟨rfl, below_of⟩
end Go.Proofs.YtjegncmkebbdfaaGreatDoor

namespace Go.Proofs.YtjegncmkebbdfaaGreatDoor
open Go.RowKit
attribute [local simp] heap_drew
attribute [local go_sem ↓] run_eql_id run_neq_id
attribute [local go_sem] Instr.makeFunc
theorem obj_get {ws : List Int} {h : HdE} {x : IDE} {j : Nat} : (ws ++ objW h x)[ws.length + j]? = (objW h x)[j]? := by
  rw [List.getElem?_append_right (by omega), show ws.length + j - ws.length = j by omega]
theorem obj_new {ws : List Int} {h : HdE} {x : IDE} (H : HdOk h) (hx : validIDB x = true) : ObjAt (ws ++ objW h x) ws.length h x :=
  ⟨by have := obj_get (ws := ws) (h := h) (x := x) (j := 0); rw [Nat.add_zero] at this; rw [this]; rfl, by rw [obj_get]; rfl, by rw [List.length_append, objW_len]; omega, H, hx⟩
theorem obj_zero {ws : List Int} {h : HdE} {x : IDE} {j : Nat} (hj : 2 + j < h.sz) : (ws ++ objW h x)[ws.length + 2 + j]? = some 0 := by
  rw [show ws.length + 2 + j = ws.length + (2 + j) by omega, obj_get]
  unfold objW tailZ
  rw [show 2 + j = j + 1 + 1 by omega, List.getElem?_cons_succ, List.getElem?_cons_succ, List.getElem?_replicate, if_pos (by omega)]
theorem set_get_same {l : List Int} {k : Nat} {x : Int} (h : l[k]? = some x) : l.set k x = l := by
  apply List.ext_getElem?
  intro j
  rw [List.getElem?_set]
  split
  · next e => subst e; rw [if_pos (List.getElem?_eq_some_iff.1 h).1, h]
  · rfl
theorem replicate_cell {w : World} {fb n : Nat} (h : w.heap[fb]? = some (.cells (Array.replicate n (.int .u64 0)) 34 (0, 0))) {k : Nat} (hk : k < n) : w.cell? ⟨fb, k, none⟩ = some (.int .u64 0) := by
  simp [World.cell?, h, hk]
theorem replicate_slAt {w : World} {fb n : Nat} (h : w.heap[fb]? = some (.cells (Array.replicate n (.int .u64 0)) 34 (0, 0))) : SlAt W64.cells 1 w (some ⟨fb, 0, none⟩) (List.replicate n 0) := fun _ =>
  ⟨fb, 0, rfl, blk_lt h, fun k x hk j u hu => by
    rw [List.getElem?_replicate] at hk
    split at hk
    · next hlt =>
      injection hk with hk
      subst hk
      have hj : j = 0 := by
        have := (List.getElem?_eq_some_iff.1 hu).1
        simp only [W64.cells, List.length_singleton] at this; omega
      subst hj
      injection hu with hu
      subst hu
      rw [Nat.zero_add, Nat.mul_one, Nat.add_zero]
      exact replicate_cell h hlt
    · cases hk⟩
structure HAl (base : Nat) (w : World) (P : HpE) (h : HdE) (x : IDE) (r : Ending) (w' : World) : Prop where
  ret : r = .returned (.tuple #[.int .u64 (adW P.M.ws.length), .int .i64 0])
  out : ∃ A' c', HpAt base w' { P with M := ⟨P.M.gO, P.M.gY, A', c', P.M.ws ++ objW h x⟩ } ∧ Only (fun j => j = P.M.gY ∨ memS P.M j) w w' ∧ (A' = P.M.A ∨ ∃ j, A' = some ⟨j, 0, none⟩ ∧ w.heap.size ≤ j)
set_option maxRecDepth 100000 in
set_option maxHeartbeats 8000000 in
theorem halloc_any {base fb n : Nat} {w : World} {P : HpE} {h : HdE} {x : IDE} (H : HpAt base w P) (ho : HdOk h) (hx : validIDB x = true) (hk3 : h.kind ≠ 3) (hk4 : h.kind ≠ 4) (hroom : P.M.ws.length + h.sz ≤ 5000) (hbase : base ≤ w.heap.size) (hn : (n : Int) = h.fields)
    (hfb : w.heap[fb]? = some (.cells (Array.replicate n (.int .u64 0)) 34 (0, 0))) (hfne : ¬ memS P.M fb) :
    Calls Tryz.prog 33 #[spP P.gh, h.v, x.v, .slice (some ⟨fb, 0, none⟩) n n] w (HAl base w P h x) := by
  obtain ⟨k0, hk0⟩ : ∃ y, y = P.M.ws.length := ⟨_, rfl⟩
  have hk05 : k0 ≤ 5000 := by omega
  have hsz : (2 : Int) + max h.fields 2 = (h.sz : Int) := by have := ho.f; unfold HdE.sz; omega
  have hst : standsB h = false := by unfold standsB; exact decide_eq_false (by rintro (e | e); exact hk3 e; exact hk4 e)
  have bk3 : (h.kind == 3) = false := by rw [beq_eq_false_iff_ne]; exact hk3
  have bk4 : (h.kind == 4) = false := by rw [beq_eq_false_iff_ne]; exact hk4
  have hnf : ¬ h.fields < (n : Int) := by omega
  have hn30 : n ≤ 30 := by have := ho.f; omega
  have HV := fun u : World => hvalid_any h u ho
  have HI : ∀ u : World, Calls Tryz.prog 71 #[x.v] u fun r w' => r = .returned (.tuple #[.int .u64 (encI x), .int .i64 0]) ∧ Below u.heap.size u w' := fun u => by
    have := encodeID_any x u
    rw [hx] at this
    exact this
  have HCt : ∀ (b1 : Nat) (u : World) [Later w u], u.heap[b1]? = some (.cells #[.pointer (some ⟨P.gh, 0, none⟩)] 37 (0, 0)) → Calls Tryz.prog 70 #[.slice (some ⟨fb, 0, none⟩) n n, .func (.func 67) #[] #[.pointer (some ⟨b1, 0, none⟩)]] u fun r w' => r = .returned (.bool false) ∧ Below u.heap.size u w' := fun b1 u i hb => by
    have := contains67_any (w := u) (b1 := b1) (fc := n) (FA := some ⟨fb, 0, none⟩) (List.replicate n 0) (replicate_slAt (blk_below hfb i.below)) (by rw [List.length_replicate]; omega) (fun v hv u2 j => by
      obtain ⟨-, rfl⟩ := List.mem_replicate.1 hv
      exact halloc1_any 0 ((H.later u).below j.below) (.inl ⟨by unfold WordOk; omega, .inl rfl⟩) (blk_below hb j.below))
    rw [List.length_replicate] at this
    exact this
  have HA : ∀ u [Later w u], Calls Tryz.prog 72 #[spP P.M.gY, h.v, x.v] u fun r w' => r = .returned (.tuple #[.int .i64 (16777216 + (k0 : Int)), .int .i64 0]) ∧ ∃ A' c', MemAt base w' ⟨P.M.gO, P.M.gY, A', c', P.M.ws ++ objW h x⟩ ∧ Only (fun j => j = P.M.gY ∨ memS P.M j) u w' ∧ (A' = P.M.A ∨ ∃ j, A' = some ⟨j, 0, none⟩ ∧ u.heap.size ≤ j) := fun u i => by
    have hu := (H.later u).mem
    refine (spAlloc_any h x u hu.young hu.spin hu.words ho hx (by omega) (by decide) (Nat.le_trans hbase i.below.size)).mono ?_
    rintro r w' ⟨A', c', rfl, h1, h2, h3, h4⟩
    refine ⟨by rw [hk0], A', c', ⟨h4.boxed hu.old ?_, h1, h2, by rw [List.length_append, objW_len]; omega⟩, h4, h3⟩
    rintro (e | e)
    · have e1 : u.heap[P.M.gO]? = _ := hu.old
      have e2 : u.heap[P.M.gY]? = _ := hu.young
      rw [e, e2] at e1
      injection e1 with e1
      injection e1 with e1
      have := congrArg (fun a => a[0]?) e1
      simp at this
    · exact hu.notS hu.old (by decide) e
  have HT := fun u : World => at_any (16777216 + (k0 : Int)) u (by omega) (by omega)
  have hobj : ObjAt (P.M.ws ++ objW h x) k0 h x := by rw [hk0]; exact obj_new ho hx
  have hzero : ∀ j, j < n → (P.M.ws ++ objW h x)[k0 + 2 + j]? = some 0 := fun j hj => by
    rw [hk0]
    exact obj_zero (by unfold HdE.sz; omega)
  have had : adW P.M.ws.length = (16777216 + (k0 : Int)) * 4 + 2 := by rw [hk0]; rfl
  have hgh := H.hd
  have hlg := H.log
  have ngh := H.mem.notS H.hd (by decide)
  have nlg := H.mem.notS H.log (by decide)
  have ygh : P.gh ≠ P.M.gY := fun e => by
    have e2 : w.heap[P.M.gY]? = _ := H.mem.young
    rw [e, e2] at hgh
    injection hgh with hgh
    injection hgh with _ hgh _
    exact absurd hgh (by decide)
  have ylg : P.gL ≠ P.M.gY := fun e => by
    have e2 : w.heap[P.M.gY]? = _ := H.mem.young
    rw [e, e2] at hlg
    injection hlg with hlg
    injection hlg with _ hlg _
    exact absurd hlg (by decide)
  have yfb : fb ≠ P.M.gY := fun e => by
    have e2 : w.heap[P.M.gY]? = _ := H.mem.young
    rw [e, e2] at hfb
    injection hfb with hfb
    injection hfb with _ hfb _
    exact absurd hfb (by decide)
  have hgw := H.mem.gw
  have hgy := blk_lt H.mem.young
  have BH := boxed hgh
  obtain ⟨a0, ha0⟩ : ∃ y, y = 16777216 + (k0 : Int) := ⟨_, rfl⟩
  simp only [← ha0] at HA HT
  rw [← ha0] at had
  have Ha0 := hide ha0
  have Had := hide had
  obtain ⟨ei, hei⟩ : ∃ y, y = encI x := ⟨_, rfl⟩
  simp only [← hei] at HI
  have Hk0 := hide hk0
  have Hobj := hide hobj
  have Hzero := hide hzero
  clear ha0 had hei hk0 hobj hzero hk3 hk4 ho hx hroom hsz H hbase
  have lww : Later w w := Later.refl
  go_enter Tryz.func33, Tryz.ntmps33
  go_upto_region 1 with fail
  refine wp_name ?_
  intro w0 hw0
  obtain ⟨B0, B1, B2, l0⟩ := box3 hw0
  have lw0 : Later w w0 := l0 w
  have l00 : Later w0 w0 := Later.refl
  clear hw0
  have HCt0 : ∀ u [Later w0 u], Calls Tryz.prog 70 #[.slice (some ⟨fb, 0, none⟩) n n, .func (.func 67) #[] #[.pointer (some ⟨w.heap.size, 0, none⟩)]] u fun r w' => r = .returned (.bool false) ∧ Below u.heap.size u w' := fun u i => by
    haveI := lw0.trans i
    exact HCt _ u (B0 u).1
  clear HCt
  go_upto_region 5 with fail
  go_upto_region 7 with (first
    | (go_at_call 69; refine (HV _).mono ?_; rintro r w1 ⟨rfl, hb1⟩; have l1 := later hb1)
    | (go_at_call 70; refine (HCt0 _).mono ?_; rintro r w2 ⟨rfl, hb2⟩; have l2 := later hb2))
  go_upto_region 10 with (go_at_call 71; refine (HI _).mono ?_; rintro r w3 ⟨rfl, hb3⟩; have l3 := later hb3)
  have l03 : Later w0 w3 := ⟨below_of⟩
  have lw3 : Later w w3 := lw0.trans l03
  have l33 : Later w3 w3 := Later.refl
  have cx : ∀ u [Later w3 u], u.cell? ⟨w.heap.size, 0, none⟩ = some (.pointer (some ⟨P.gh, 0, none⟩)) ∧ u.cell? ⟨P.gh, 2, none⟩ = some (.pointer (some ⟨P.M.gY, 0, none⟩)) ∧ u.cell? ⟨w.heap.size + 1, 0, none⟩ = some (.int .i64 h.kind) ∧ u.cell? ⟨w.heap.size + 1, 1, none⟩ = some (.int .i64 h.clas) ∧ u.cell? ⟨w.heap.size + 1, 2, none⟩ = some (.int .i64 h.fields) ∧ u.cell? ⟨w.heap.size + 2, 0, none⟩ = some (.int .i64 x.machine) ∧ u.cell? ⟨w.heap.size + 2, 1, none⟩ = some (.int .i64 x.serial) := fun u i => by
    haveI := l03.trans i
    haveI := lw3.trans i
    exact ⟨((B0 u).2 0).1, ((BH u).2 2).1, ((B1 u).2 0).1, ((B1 u).2 1).1, ((B1 u).2 2).1, ((B2 u).2 0).1, ((B2 u).2 1).1⟩
  obtain ⟨c0, c1, c2, c3, c4, c5, c6⟩ := cx w3
  have hz0 := blk_lt (B2 w0).1
  have nS : ∀ j, w.heap.size ≤ j → ¬ (j = P.M.gY ∨ memS P.M j) := fun j hj e => by
    rcases e with e | e
    · omega
    · have := hgw j e; omega
  have b0 := (B0 w3).1
  have b1 := (B1 w3).1
  have b2 := (B2 w3).1
  go_region_held3 (fun w' => w'.cell? ⟨w.heap.size, 0, none⟩ = some (.pointer (some ⟨P.gh, 0, none⟩)) ∧ w'.cell? ⟨P.gh, 2, none⟩ = some (.pointer (some ⟨P.M.gY, 0, none⟩)) ∧ w'.cell? ⟨w.heap.size + 1, 0, none⟩ = some (.int .i64 h.kind) ∧ w'.cell? ⟨w.heap.size + 1, 1, none⟩ = some (.int .i64 h.clas) ∧ w'.cell? ⟨w.heap.size + 1, 2, none⟩ = some (.int .i64 h.fields) ∧ w'.cell? ⟨w.heap.size + 2, 0, none⟩ = some (.int .i64 x.machine) ∧ w'.cell? ⟨w.heap.size + 2, 1, none⟩ = some (.int .i64 x.serial)) (first | exact cx _ | exact cy)
    ((go_at_call 72
      refine (HA _).mono ?_
      rintro r w5 ⟨rfl, A', c', hm5, ho5, hA5⟩
      have hA : A' = P.M.A ∨ ∃ j, A' = some ⟨j, 0, none⟩ ∧ w0.heap.size ≤ j := hA5.imp id (fun ⟨j, e, hj⟩ => ⟨j, e, Nat.le_trans (show Below w0.heap.size w0 _ from below_of).size hj⟩)
      have o35 := (Only.of_below (s := fun j => j = P.M.gY ∨ memS P.M j) (show Below w3.heap.size w3 _ from below_of)).trans ho5
      have o5 := (Only.of_below (s := fun j => j = P.M.gY ∨ memS P.M j) lw3.below).trans o35
      have l55 : Later w5 w5 := Later.refl
      have D0 := boxed (o35.boxed b0 (nS _ (Nat.le_refl _)))
      have D1 := boxed (o35.boxed b1 (nS _ (by omega)))
      have D2 := boxed (o35.boxed b2 (nS _ (by omega)))
      have DH := boxed (o5.boxed hgh (fun e => e.elim ygh ngh))
      have cy : w5.cell? ⟨w.heap.size, 0, none⟩ = some (.pointer (some ⟨P.gh, 0, none⟩)) ∧ w5.cell? ⟨P.gh, 2, none⟩ = some (.pointer (some ⟨P.M.gY, 0, none⟩)) ∧ w5.cell? ⟨w.heap.size + 1, 0, none⟩ = some (.int .i64 h.kind) ∧ w5.cell? ⟨w.heap.size + 1, 1, none⟩ = some (.int .i64 h.clas) ∧ w5.cell? ⟨w.heap.size + 1, 2, none⟩ = some (.int .i64 h.fields) ∧ w5.cell? ⟨w.heap.size + 2, 0, none⟩ = some (.int .i64 x.machine) ∧ w5.cell? ⟨w.heap.size + 2, 1, none⟩ = some (.int .i64 x.serial) := ⟨((D0 w5).2 0).1, ((DH w5).2 2).1, ((D1 w5).2 0).1, ((D1 w5).2 1).1, ((D1 w5).2 2).1, ((D2 w5).2 0).1, ((D2 w5).2 1).1⟩))
  obtain ⟨M', hM'⟩ : ∃ M' : MemE, M' = ⟨P.M.gO, P.M.gY, A', c', P.M.ws ++ objW h x⟩ := ⟨_, rfl⟩
  rw [← hM'] at hm5
  have HM' := hide hM'
  have hv' : M'.v = P.M.v := by rw [hM']
  have hA' : M'.A = A' := by rw [hM']
  have hws' : M'.ws = P.M.ws ++ objW h x := by rw [hM']
  have hobj := Hobj.out
  have hzero := Hzero.out
  rw [← hws'] at hobj hzero
  have nB : ∀ j, w.heap.size ≤ j → j < w0.heap.size → ¬ memS M' j := fun j hj1 hj2 e => by
    unfold memS at e
    rw [hA'] at e
    rcases hA with e1 | ⟨i, e1, hi⟩
    · have := hgw j (show P.M.A = _ from e1 ▸ e); omega
    · rw [e1] at e; injection e with e; injection e with e; omega
  have nF : ¬ memS M' fb := fun e => by
    unfold memS at e
    rw [hA'] at e
    rcases hA with e1 | ⟨i, e1, hi⟩
    · exact hfne (show P.M.A = _ from e1 ▸ e)
    · rw [e1] at e; injection e with e; injection e with e; have := blk_lt hfb; have := lw0.below.size; omega
  have k0 := (D0 w5).1
  have kH := (DH w5).1
  have kL := o5.boxed hlg (fun e => e.elim ylg nlg)
  have kF := o5.boxed hfb (fun e => e.elim yfb hfne)
  have nH := hm5.notS kH (by decide)
  have nL := hm5.notS kL (by decide)
  have hzw := lw0.below.size
  clear l1 l2 l3 hb1 hb2 hb3 b0 b1 b2 B0 B1 B2 BH D0 D1 D2 DH cx cy c0 c1 c2 c3 c4 c5 c6 HA HCt0 HV HI hA5 ho5 o35 hws' hM' Hobj Hzero
  go_wp2_with fail
  go_loopw [66] (fun kv wr => ∃ k : Nat, k ≤ n ∧ kv = .int .i64 k ∧ MemAt base wr M' ∧ Only (memS M') w5 wr) (fun kv _ => n - (intOf kv).toNat)
  case atStart => exact ⟨0, by omega, rfl, hm5, Only.refl⟩
  case round =>
    obtain ⟨k, hk, rfl, hmr, hor⟩ := hrel
    have lrr : Later wr wr := Later.refl
    by_cases hlt : k < n
    rotate_left
    · have hk' : k = n := by omega
      have hs : ∀ j, j < w.heap.size → memS M' j → (j = P.M.gY ∨ memS P.M j) := fun j hj e => by
        unfold memS at e
        rw [hA'] at e
        rcases hA with e1 | ⟨i, e1, hi⟩
        · exact .inr (show P.M.A = _ from e1 ▸ e)
        · rw [e1] at e; injection e with e; injection e with e; omega
      have or := o5.trans' hor hs
      have hp : HpAt base wr { P with M := ⟨P.M.gO, P.M.gY, A', c', P.M.ws ++ objW h x⟩ } := ⟨hor.boxed kH nH, hor.boxed kL nL, by rw [← HM'.out]; exact hmr⟩
      have hA2 : A' = P.M.A ∨ ∃ j, A' = some ⟨j, 0, none⟩ ∧ w.heap.size ≤ j := hA.imp id (fun ⟨j, e, hj⟩ => ⟨j, e, Nat.le_trans hzw hj⟩)
      clear hmr hor hm5 hA hA' hobj hzero
      go_wp2_with (go_at_call 74; refine (HT _).mono ?_; rintro r w7 ⟨rfl, hb7⟩; have l7 := later hb7)
      exact bodyPost_ret (results_tmp2 rfl _ _ _) rfl ⟨by rw [Had.out]; rfl, A', c', hp.below hb7, or.trans (Only.of_below hb7), hA2⟩
    have hki : (k : Int) < (n : Int) := by omega
    have E0 := boxed (hor.boxed k0 (nB _ (Nat.le_refl _) (by omega)))
    have EH := boxed (hor.boxed kH nH)
    have cF := replicate_cell (hor.boxed kF nF) hlt
    have hsame := set_get_same (hzero k hlt)
    have HS : ∀ u [Later wr u], Calls Tryz.prog 73 #[P.M.v, .int .i64 a0, .int .i64 (k : Int), .int .u64 0] u fun r w' => r = .returned (.int .i64 0) ∧ MemAt base w' M' ∧ Only (memS M') u w' := fun u _ => by
      have h0 := msetField_any a0 (i := k) 0 (hmr.later u) Ha0.out hobj hst (by omega)
      rw [hv'] at h0
      refine h0.mono ?_
      intro r w' hs
      refine ⟨hs.ret, ?_, hs.only⟩
      have h1 := hs.mem (hmr.later u) (List.getElem?_eq_some_iff.1 (hzero k hlt)).1
      rw [hsame] at h1
      exact h1
    clear hsame
    go_wp2_with (go_at_call 73; refine (HS _).mono ?_; rintro r w7 ⟨rfl, hm7, ho7⟩; have o7 := (hor.trans (Only.of_below (show Below wr.heap.size wr _ from below_of))).trans ho7)
    go_roundw
    case rel => exact ⟨k + 1, by omega, by go_num, hm7, o7⟩
    case measure => simp [intOf]; omega
end Go.Proofs.YtjegncmkebbdfaaGreatDoor

/-
  Small texts of this seat, put into one. Conditions stand in each theorem.
-/
import Derived.Test.YtomgdkfoinojiaaGrpR
set_option linter.unusedSimpArgs false
set_option linter.unusedVariables false
namespace Go.Proofs.Ytomgdkfoinojiaa
open Go.RowKit
def NumP (l : List Int) (w : World) (r : Ending) (w' : World) : Prop := r = .returned (.tuple #[.int .u64 (if okU l then numU l else 0), .int .i64 (if okU l then (1 + (l.headD 0) : Int) else -1)]) ∧ Below w.heap.size w w'
set_option maxRecDepth 100000 in
set_option maxHeartbeats 4000000 in
theorem number_any (A : Option Addr) (c : Nat) (l : List Int) (w : World) (hA : SlAt U8.cells 1 w A l) (hl : l.length ≤ 9223372036854775807) (hb : Bytes l) :
    Calls Try.prog 87 #[.slice A l.length c] w (NumP l w) := by
  cases l with
  | nil =>
    go_enter Try.func87, Try.ntmps87
    go_wp2_with fail
    refine bodyPost_ret (v := .tuple #[.int .u64 0, .int .i64 (-1)]) (by simp [results, Try.results87, go_sem]) rfl ?_
    exact ⟨rfl, below_of⟩
  | cons k t =>
    have hk := hb k (by simp)
    obtain ⟨b, off, rfl, hbl, K0⟩ := byte_at hA (k := 0) (x := k) rfl
    rw [Nat.add_zero] at K0
    simp only [List.length_cons] at hl ⊢
    by_cases h8 : 8 < k
    · have h8' : decide (8 < k) = true := by simpa using h8
      (have hno := hide (show okU (k :: t) = false by
        simp only [okU, Bool.and_eq_false_iff, decide_eq_false_iff_not, Bool.not_eq_false', Bool.and_eq_true, decide_eq_true_eq]
        omega))
      go_enter Try.func87, Try.ntmps87
      go_wp2_with fail
      refine bodyPost_ret (v := .tuple #[.int .u64 0, .int .i64 (-1)]) (by simp [results, Try.results87, go_sem]) rfl ?_
      exact ⟨by rw [hno.out]; rfl, below_of⟩
    have h8' : decide (8 < k) = false := by simpa using h8
    by_cases hs : (t.length : Int) < k
    · have hs' : decide ((t.length : Int) + 1 < 1 + k) = true := by simp; omega
      (have hno := hide (show okU (k :: t) = false by
        simp only [okU, Bool.and_eq_false_iff, decide_eq_false_iff_not, Bool.not_eq_false', Bool.and_eq_true, decide_eq_true_eq]
        omega))
      go_enter Try.func87, Try.ntmps87
      go_wp2_with fail
      refine bodyPost_ret (v := .tuple #[.int .u64 0, .int .i64 (-1)]) (by simp [results, Try.results87, go_sem]) rfl ?_
      exact ⟨by rw [hno.out]; rfl, below_of⟩
    have hs' : decide ((t.length : Int) + 1 < 1 + k) = false := by simp; omega
    by_cases hz : 0 < k ∧ t[0]? = some 0
    · obtain ⟨hz1, hz2⟩ := hz
      have hz1' : decide (0 < k) = true := by simpa using hz1
      obtain ⟨b', off', e1, -, K1⟩ := byte_at hA (k := 1) (x := 0) (by simpa using hz2)
      injection e1 with e1
      injection e1 with e1 e2
      subst e1 e2
      have ht : (1 : Int) < (t.length : Int) + 1 := by have := (List.getElem?_eq_some_iff.1 hz2).1; omega
      have hno := hide (show okU (k :: t) = false by simp [okU, hz1, hz2])
      go_enter Try.func87, Try.ntmps87
      go_wp2_with fail
      refine bodyPost_ret (v := .tuple #[.int .u64 0, .int .i64 (-1)]) (by simp [results, Try.results87, go_sem]) rfl ?_
      exact ⟨by rw [hno.out]; rfl, below_of⟩
    have hok := hide (show okU (k :: t) = true by
      simp only [okU, Bool.and_eq_true, decide_eq_true_eq, Bool.not_eq_true', Bool.and_eq_false_iff, decide_eq_false_iff_not]
      exact ⟨by omega, by omega, by by_cases h : 0 < k; exact .inr fun h2 => hz ⟨h, h2⟩; exact .inl h⟩)
    obtain ⟨kn, rfl⟩ : ∃ kn : Nat, k = (kn : Int) := ⟨k.toNat, by omega⟩
    have hkl : kn ≤ t.length := by omega
    have hk8 : kn ≤ 8 := by omega
    have hend : ∀ wr, Below w.heap.size w wr → NumP ((kn : Int) :: t) w (.returned (.tuple #[.int .u64 (valN (t.take kn) : Nat), .int .i64 (1 + (kn : Int))])) wr := fun wr h => ⟨by rw [hok.out]; simp [numU], h⟩
    have hfg : ∀ y : Int, t[0]? = some y → 0 < kn → (y == 0) = false := fun y hy h => by
      have : y ≠ 0 := fun e => hz ⟨by omega, by rw [hy, e]⟩
      simpa using this
    have HF := hide hfg
    have HEnd := hide hend
    clear hz hok hfg hend
    have hwk : IntKind.i64.wrap (kn : Int) = (kn : Int) := by rw [IntKind.wrap_i64]; omega
    have hwk1 : IntKind.i64.wrap (1 + (kn : Int)) = 1 + (kn : Int) := by rw [IntKind.wrap_i64]; omega
    by_cases h0 : kn = 0
    · subst h0
      have K0' : ∀ u [Later w u], u.cell? ⟨b, off, none⟩ = some (.int .u8 0) := K0
      have hwk0 : IntKind.i64.wrap 0 = 0 := rfl
      have h8'' : decide ((8 : Int) < 0) = false := rfl
      have hs'' : decide ((t.length : Int) + 1 < 1 + 0) = false := by simp; omega
      clear K0 h8' hs'
      go_enter Try.func87, Try.ntmps87
      go_wp2_with fail
      · exfalso
        rename_i h
        rcases h with h | h
        · rw [beq_iff_eq] at h; omega
        · omega
      go_loopw [4, 5] (fun n i wr => i = .int .i64 0 ∧ n = .int .u64 0 ∧ Below w.heap.size w wr) (fun _ _ _ => 0)
      case atStart => exact ⟨rfl, rfl, below_of⟩
      case round =>
        obtain ⟨rfl, rfl, hbr⟩ := hrel
        have lr := later hbr
        go_upto_region 8 with fail
        (refine wp_region_after (by kernel_rfl) (by kernel_rfl) ?_
         repeat (any_goals (first | go_big_quiet_skip | (go_big_quiet_want; go_big_quiet_op; first | go_big_quiet_on | go_big_quiet_call (fail)) | quiet_step (fail) | (refine wpQuiet_step (fun K hK => ?_); go_simp; split <;> (refine hK _ ?_; clear hK K))))
         all_goals (refine wpQuiet_nil ?_; intro _ hw'; obtain ⟨u', hw''⟩ := hw'; subst hw''; obtain ⟨wd, hbd⟩ := u'; simp only [After.val_mk]))
        have ld := later hbd
        go_wp2_with fail
        refine bodyPost_ret (v := .tuple #[.int .u64 (valN (t.take 0) : Nat), .int .i64 (1 + ((0 : Nat) : Int))]) (by first | (simp [results, Try.results87, go_sem]; done) | (simp [results, Try.results87, go_sem, valN]; done)) rfl ?_
        exact HEnd.out _ below_of
    · obtain ⟨y, hy⟩ : ∃ y, t[0]? = some y := ⟨_, List.getElem?_eq_getElem (by omega)⟩
      have hy0 := HF.out y hy (by omega)
      obtain ⟨b', off', e1, -, K1⟩ := byte_at hA (k := 1) (x := y) (by simpa using hy)
      injection e1 with e1
      injection e1 with e1 e2
      subst e1 e2
      have ht : (1 : Int) < (t.length : Int) + 1 := by omega
      have hkp : decide ((0 : Int) < (kn : Int)) = true := by simp; omega
      go_enter Try.func87, Try.ntmps87
      go_wp2_with fail
      go_loopw [4, 5] (fun n i wr => ∃ j : Nat, j ≤ kn ∧ i = .int .i64 j ∧ n = .int .u64 (valN (t.take j) : Nat) ∧ Below w.heap.size w wr) (fun _ i _ => kn - (intOf i).toNat)
      case atStart => exact ⟨0, by omega, rfl, by simp [valN], below_of⟩
      case round =>
        obtain ⟨j, hj, rfl, rfl, hbr⟩ := hrel
        have lr := later hbr
        by_cases hlt : j < kn
        · obtain ⟨x, hx⟩ : ∃ x, t[j]? = some x := ⟨_, List.getElem?_eq_getElem (by omega)⟩
          obtain ⟨b', off', e1, -, Kx⟩ := byte_at hA (k := j + 1) (x := x) (by simpa using hx)
          injection e1 with e1
          injection e1 with e1 e2
          subst e1 e2
          have hxr := hb.tail x (List.mem_of_getElem? hx)
          rw [show off + (j + 1) = off + (1 + j) by omega] at Kx
          have hv : valN (t.take j) < 72057594037927936 := by
            have h1 := valN_lt j (t.take j) (by rw [List.length_take]; omega) (hb.tail.take _)
            have h2 : 256 ^ j ≤ 256 ^ 7 := Nat.pow_le_pow_right (by omega) (by omega)
            omega
          have hjk : (j : Int) < (kn : Int) := by omega
          have Hs := hide (show valN (t.take (j + 1)) = valN (t.take j) * 256 + x.toNat by rw [take_snoc_get hx, valN_snoc])
          clear hx
          go_wp2_with fail
          go_roundw
          case rel => exact ⟨j + 1, by omega, by go_num, by rw [Hs.out]; simp; omega, hbr⟩
          case measure => simp [intOf]; omega
        · have hjj : j = kn := by omega
          subst hjj
          go_upto_region 8 with fail
          (refine wp_region_after (by kernel_rfl) (by kernel_rfl) ?_
           repeat (any_goals (first | go_big_quiet_skip | (go_big_quiet_want; go_big_quiet_op; first | go_big_quiet_on | go_big_quiet_call (fail)) | quiet_step (fail) | (refine wpQuiet_step (fun K hK => ?_); go_simp; split <;> (refine hK _ ?_; clear hK K))))
           all_goals (refine wpQuiet_nil ?_; intro _ hw'; obtain ⟨u', hw''⟩ := hw'; subst hw''; obtain ⟨wd, hbd⟩ := u'; simp only [After.val_mk]))
          have ld := later hbd
          go_wp2_with fail
          refine bodyPost_ret (v := .tuple #[.int .u64 (valN (t.take j) : Nat), .int .i64 (1 + ((j : Nat) : Int))]) (by first | (simp [results, Try.results87, go_sem]; done) | (simp [results, Try.results87, go_sem, valN]; done)) rfl ?_
          exact HEnd.out _ below_of
end Go.Proofs.Ytomgdkfoinojiaa

namespace Go.Proofs.Ytomgdkfoinojiaa
open Go.RowKit
/-- The reference's reader: its box g, the bytes that are left and its error; the bytes lie in wb, ahead of the box. -/
structure RR (wb : World) (g : Nat) (w : World) (st : List Int × Int) : Prop where
  lw : Below wb.heap.size wb w
  gw : wb.heap.size ≤ g
  s : ∃ (A : Option Addr) (c : Nat), SlAt U8.cells 1 wb A st.1 ∧ st.1.length ≤ c ∧ c ≤ maxLen ∧ w.heap[g]? = some (.cells #[.slice A st.1.length c, .int .i64 st.2] 110 (0, 0))
  by_ : Bytes st.1
def RRPost (v : Value) (wb : World) (g : Nat) (st : List Int × Int) (w : World) (r : Ending) (w' : World) : Prop := r = .returned v ∧ RR wb g w' st ∧ Only (fun k => k = g) w w'
section
variable {wb w w' : World} {g : Nat} {st : List Int × Int}
theorem RR.drew (h : RR wb g w st) : RR wb g w.drew st := ⟨h.lw.drew, h.gw, h.s, h.by_⟩
theorem RR.below (h : RR wb g w st) (hb : Below w.heap.size w w') : RR wb g w' st := by
  obtain ⟨A, c, h1, h2, h3, h4⟩ := h.s
  exact ⟨h.lw.trans (hb.mono h.lw.size), h.gw, ⟨A, c, h1, h2, h3, (hb.block g (blk_lt h4)).trans h4⟩, h.by_⟩
theorem RR.only {s : Nat → Prop} (h : RR wb g w st) (ho : Only s w w') (hs : ∀ k, s k → wb.heap.size ≤ k ∧ k ≠ g) : RR wb g w' st := by
  obtain ⟨A, c, h1, h2, h3, h4⟩ := h.s
  exact ⟨h.lw.trans (ho.below (fun k hk => (hs k hk).1) h.lw.size), h.gw, ⟨A, c, h1, h2, h3, ho.boxed h4 (fun e => (hs g e).2 rfl)⟩, h.by_⟩
theorem RR.lt (h : RR wb g w st) : g < w.heap.size := by obtain ⟨A, c, _, _, _, h⟩ := h.s; exact blk_lt h
end
theorem okR_of {k : Int} {t : List Int} (hk : 0 ≤ k) (ho : okU (k :: t) = true) : k ≤ 8 ∧ k ≤ t.length := by
  simp only [okU, Bool.and_eq_true, decide_eq_true_eq] at ho
  exact ⟨ho.1, ho.2.1⟩
set_option maxRecDepth 100000 in
set_option maxHeartbeats 2000000 in
theorem rfail_any (g : Nat) (A : Option Addr) (k c : Nat) (e x : Int) (w : World) (hg : w.heap[g]? = some (.cells #[.slice A k c, .int .i64 e] 110 (0, 0))) :
    Calls Try.prog 88 #[.pointer (some ⟨g, 0, none⟩), .int .i64 x] w fun r w' => r = .returned (.tuple #[]) ∧ Only (fun k => k = g) w w' ∧ w'.heap[g]? = some (.cells #[.slice none 0 0, .int .i64 x] 110 (0, 0)) := by
  have BG := boxed hg
  go_enter Try.func88, Try.ntmps88
  go_wp2_with fail
  go_end0
  refine ⟨rfl, Only.setCell (s := fun k => k = g) (Only.setCell (s := fun k => k = g) Only.refl (.inl rfl) _) (.inl rfl) _, ?_⟩
  exact (blk_set (blk_set hg 0 _) 1 _).trans rfl
set_option maxRecDepth 100000 in
set_option maxHeartbeats 4000000 in
theorem ruint_any (wb : World) (g : Nat) (st : List Int × Int) (w : World) (R : RR wb g w st) :
    Calls Try.prog 54 #[.pointer (some ⟨g, 0, none⟩)] w (RRPost (.int .u64 (rdU st).1) wb g (rdU st).2 w) := by
  obtain ⟨l, e⟩ := st
  obtain ⟨A, c, hA, hlc, hcm, hg⟩ := R.s
  have hby := R.by_
  have hgw := R.gw
  simp only at hA hlc hg hby
  have lw : Later wb w := ⟨R.lw⟩
  have hgl := blk_lt hg
  have hws := R.lw.size
  have hcm' : c ≤ 9223372036854775807 := by unfold maxLen at hcm; omega
  have BG := boxed hg
  obtain ⟨n, st', hr⟩ : ∃ n st', rdU (l, e) = (n, st') := ⟨_, _, rfl⟩
  rw [hr]
  by_cases he : e = 0
  rotate_left
  · rw [show rdU (l, e) = (0, (l, e)) by simp [rdU, he]] at hr
    obtain ⟨rfl, rfl⟩ := Prod.mk.inj hr
    clear hr
    go_enter Try.func54, Try.ntmps54
    go_wp2_with fail
    go_ret
    exact ⟨rfl, R, Only.refl⟩
  subst he
  have HN : ∀ u [Later w u], Calls Try.prog 87 #[.slice A l.length c] u (NumP l u) := fun u i => number_any A c l u (hA.below (lw.trans i).below) (by omega) hby
  unfold NumP at HN
  cases ho : okU l
  · rw [show rdU (l, 0) = (0, ([], 11)) by simp [rdU, ho]] at hr
    obtain ⟨rfl, rfl⟩ := Prod.mk.inj hr
    clear hr
    rw [ho] at HN
    go_enter Try.func54, Try.ntmps54
    go_wp2_with (first
      | (go_at_call 87; refine (HN _).mono ?_; rintro r w1 ⟨rfl, hb1⟩; have l1 := later hb1; have hg1 := blk_below hg hb1)
      | (go_at_call 88; refine (rfail_any g _ _ _ _ 11 _ hg1).mono ?_; rintro r w2 ⟨rfl, ho2, hg2⟩))
    go_ret
    have hon : Only (fun k => k = g) w w2 := (Only.of_below hb1).trans ho2
    exact ⟨rfl, ⟨(hon.below (B := wb.heap.size) (fun k e => by subst e; exact hgw) hws |> R.lw.trans), hgw, ⟨none, 0, SlAt.nil, by simp, by simp, hg2⟩, fun x hx => by cases hx⟩, hon⟩
  · rw [show rdU (l, 0) = (numU l, (restU l, 0)) by simp [rdU, ho]] at hr
    obtain ⟨rfl, rfl⟩ := Prod.mk.inj hr
    clear hr
    rw [ho] at HN
    cases l with
    | nil => cases ho
    | cons k t =>
      have hk0 := hby k (by simp)
      obtain ⟨hk8, hkt⟩ := okR_of hk0.1 ho
      obtain ⟨kn, rfl⟩ : ∃ kn : Nat, k = (kn : Int) := ⟨k.toNat, by omega⟩
      obtain ⟨nn, hnn⟩ : ∃ nn, nn = numU ((kn : Int) :: t) := ⟨_, rfl⟩
      simp only [if_true, List.headD_cons] at HN
      rw [← hnn] at HN ⊢
      have hkp : decide (1 + (kn : Int) < 0) = false := by simp; omega
      have hsl2 : 1 + (kn : Int) ≤ (c : Int) := by simp only [List.length_cons] at hlc; omega
      obtain ⟨b, off, rfl, hbl, -⟩ := byte_at hA (k := 0) (x := (kn : Int)) rfl
      have hr1 := restU_bytes hby
      have hrl : (restU ((kn : Int) :: t)).length = t.length + 1 - (1 + kn) := by simp only [restU, Int.toNat_natCast, List.length_drop]; omega
      have hrs : ∃ x, x = restU ((kn : Int) :: t) := ⟨_, rfl⟩
      obtain ⟨rs, hrs⟩ := hrs
      have hAd : SlAt U8.cells 1 wb (some ⟨b, off + (1 + kn), none⟩) rs := by
        have := SlAt.drop hA (1 + kn)
        rw [Nat.mul_one] at this
        rw [hrs]
        simp only [restU, Int.toNat_natCast]
        rw [Nat.add_comm 1 kn, List.drop_succ_cons] at this
        rw [Nat.add_comm 1 kn]
        exact this
      rw [← hrs] at hrl hr1 ⊢
      clear hnn hrs
      by_cases hc1 : c = 1 + kn
      · subst hc1
        have hrn : rs = [] := List.eq_nil_of_length_eq_zero (by simp only [List.length_cons] at hlc; omega)
        go_enter Try.func54, Try.ntmps54
        go_wp2_with (first
          | (go_at_call 87; refine (HN _).mono ?_; rintro r w1 ⟨rfl, hb1⟩; have l1 := later hb1; have hg1 := blk_below hg hb1; have BG1 := boxed hg1))
        go_ret
        have hon : Only (fun k => k = g) w (w1.setCell ⟨g, 0, none⟩ (.slice (some ⟨b, off, none⟩) (t.length + 1 - (1 + kn)) 0)) := Only.setCell (s := fun k => k = g) (Only.of_below hb1) (.inl rfl) _
        have hG := blk_set hg1 0 (.slice (some ⟨b, off, none⟩) (t.length + 1 - (1 + kn)) 0)
        rw [← hrl] at hG hon ⊢
        exact ⟨rfl, ⟨(hon.below (B := wb.heap.size) (fun k e => by subst e; exact hgw) hws |> R.lw.trans), hgw, ⟨some ⟨b, off, none⟩, 0, by rw [hrn]; exact SlAt.nil, by rw [hrn]; simp, by simp, hG.trans rfl⟩, hr1⟩, hon⟩
      · go_enter Try.func54, Try.ntmps54
        go_wp2_with (first
          | (go_at_call 87; refine (HN _).mono ?_; rintro r w1 ⟨rfl, hb1⟩; have l1 := later hb1; have hg1 := blk_below hg hb1; have BG1 := boxed hg1))
        go_ret
        have hon : Only (fun k => k = g) w (w1.setCell ⟨g, 0, none⟩ (.slice (some ⟨b, off + (1 + kn), none⟩) (t.length + 1 - (1 + kn)) (c - (1 + kn)))) := Only.setCell (s := fun k => k = g) (Only.of_below hb1) (.inl rfl) _
        have hG := blk_set hg1 0 (.slice (some ⟨b, off + (1 + kn), none⟩) (t.length + 1 - (1 + kn)) (c - (1 + kn)))
        rw [← hrl] at hG hon ⊢
        exact ⟨rfl, ⟨(hon.below (B := wb.heap.size) (fun k e => by subst e; exact hgw) hws |> R.lw.trans), hgw, ⟨some ⟨b, off + (1 + kn), none⟩, c - (1 + kn), hAd, by rw [hrl]; simp only [List.length_cons] at hlc; omega, by omega, hG.trans rfl⟩, hr1⟩, hon⟩
end Go.Proofs.Ytomgdkfoinojiaa

namespace Go.Proofs.Ytomgdkfoinojiaa
open Go.RowKit
set_option maxRecDepth 100000 in
set_option maxHeartbeats 4000000 in
theorem rcount_any (wb : World) (g : Nat) (m : Int) (st : List Int × Int) (w : World) (R : RR wb g w st) (hm0 : 0 ≤ m) (hm1 : m ≤ 1000000) :
    Calls Try.prog 55 #[.pointer (some ⟨g, 0, none⟩), .int .i64 m] w (RRPost (.int .i64 (rdC m st).1) wb g (rdC m st).2 w) := by
  have hgw := R.gw
  have hws := R.lw.size
  have hur := rdU_range R.by_
  obtain ⟨x, hx⟩ : ∃ x, rdC m st = x := ⟨_, rfl⟩
  rw [hx]
  have HU := ruint_any wb g st w R
  obtain ⟨u, hu⟩ : ∃ u, rdU st = u := ⟨_, rfl⟩
  unfold rdC at hx
  rw [hu] at hx hur HU
  obtain ⟨n, l, e⟩ := u
  simp only at hx hur HU
  have hmm : decide (m < 0) = false := by simpa using hm0
  have hm64 : m % 18446744073709551616 = m := by omega
  go_enter Try.func55, Try.ntmps55
  go_upto_region 2 with (go_at_call 54; refine HU.mono ?_; rintro r w1 ⟨rfl, R1, hon1⟩)
  obtain ⟨A, c, hA, hlc, hcm, hg1⟩ := R1.s
  simp only at hA hlc hg1
  have BG1 := boxed hg1
  have hcm' : c ≤ 9223372036854775807 := by unfold maxLen at hcm; omega
  have hl64 : (l.length : Int) % 18446744073709551616 = (l.length : Int) := by omega
  by_cases he : e = 0
  rotate_left
  · rw [if_neg he] at hx
    subst hx
    have he' : (e != 0) = true := by simpa using he
    go_wp2_with fail
    go_ret
    exact ⟨rfl, R1, hon1⟩
  subst he
  rw [if_pos rfl] at hx
  by_cases h1 : m < n
  · have hc : cntE m n l.length = 8 := by simp [cntE, h1]
    rw [hc, if_neg (by decide)] at hx
    subst hx
    have h1' : decide (m < n) = true := by simpa using h1
    go_wp2_with (go_at_call 88; refine (rfail_any g _ _ _ _ 8 _ hg1).mono ?_; rintro r w2 ⟨rfl, ho2, hg2⟩)
    go_ret
    have hon : Only (fun k => k = g) w w2 := hon1.trans ho2
    exact ⟨rfl, ⟨(hon.below (B := wb.heap.size) (fun k e => by subst e; exact hgw) hws |> R.lw.trans), hgw, ⟨none, 0, SlAt.nil, by simp, by simp, hg2⟩, fun x hx => by cases hx⟩, hon⟩
  have h1' : decide (m < n) = false := by simpa using h1
  by_cases h2 : (l.length : Int) < n
  · have hc : cntE m n l.length = 11 := by simp [cntE, h1, h2]
    rw [hc, if_neg (by decide)] at hx
    subst hx
    have h2' : decide ((l.length : Int) < n) = true := by simpa using h2
    go_wp2_with (go_at_call 88; refine (rfail_any g _ _ _ _ 11 _ hg1).mono ?_; rintro r w2 ⟨rfl, ho2, hg2⟩)
    go_ret
    have hon : Only (fun k => k = g) w w2 := hon1.trans ho2
    exact ⟨rfl, ⟨(hon.below (B := wb.heap.size) (fun k e => by subst e; exact hgw) hws |> R.lw.trans), hgw, ⟨none, 0, SlAt.nil, by simp, by simp, hg2⟩, fun x hx => by cases hx⟩, hon⟩
  · have hc : cntE m n l.length = 0 := by simp [cntE, h1, h2]
    rw [hc, if_pos rfl] at hx
    subst hx
    have h2' : decide ((l.length : Int) < n) = false := by simpa using h2
    have hwn : IntKind.i64.wrap n = n := by rw [IntKind.wrap_i64]; omega
    go_wp2_with fail
    go_ret
    exact ⟨rfl, R1, hon1⟩
set_option maxRecDepth 100000 in
set_option maxHeartbeats 4000000 in
theorem rbool_any (wb : World) (g : Nat) (st : List Int × Int) (w : World) (R : RR wb g w st) :
    Calls Try.prog 56 #[.pointer (some ⟨g, 0, none⟩)] w (RRPost (.bool (rdB st).1) wb g (rdB st).2 w) := by
  obtain ⟨l, e⟩ := st
  obtain ⟨A, c, hA, hlc, hcm, hg⟩ := R.s
  have hby := R.by_
  have hgw := R.gw
  simp only at hA hlc hg hby
  have lw : Later wb w := ⟨R.lw⟩
  have hws := R.lw.size
  have hcm' : c ≤ 9223372036854775807 := by unfold maxLen at hcm; omega
  have BG := boxed hg
  have hon1 : Only (fun k => k = g) w w := Only.refl
  obtain ⟨n, st', hr⟩ : ∃ n st', rdB (l, e) = (n, st') := ⟨_, _, rfl⟩
  rw [hr]
  rw [rdB_eq] at hr
  by_cases he : e = 0
  rotate_left
  · rw [if_neg he] at hr
    obtain ⟨rfl, rfl⟩ := Prod.mk.inj hr
    clear hr
    go_enter Try.func56, Try.ntmps56
    go_wp2_with fail
    go_ret
    exact ⟨rfl, R, Only.refl⟩
  subst he
  rw [if_pos rfl] at hr
  cases l with
  | nil =>
    obtain ⟨rfl, rfl⟩ := Prod.mk.inj hr
    clear hr
    go_enter Try.func56, Try.ntmps56
    go_wp2_with (go_at_call 88; refine (rfail_any g _ _ _ _ 11 _ hg).mono ?_; rintro r w2 ⟨rfl, ho2, hg2⟩)
    go_ret
    have hon : Only (fun k => k = g) w w2 := hon1.trans ho2
    exact ⟨rfl, ⟨(hon.below (B := wb.heap.size) (fun k e => by subst e; exact hgw) hws |> R.lw.trans), hgw, ⟨none, 0, SlAt.nil, by simp, by simp, hg2⟩, fun x hx => by cases hx⟩, hon⟩
  | cons k t =>
    have hk0 := hby k (by simp)
    obtain ⟨b, off, rfl, hbl, K0⟩ := byte_at hA (k := 0) (x := k) rfl
    rw [Nat.add_zero] at K0
    simp only at hr
    simp only [List.length_cons] at hlc hg BG
    have hne : ((t.length : Int) + 1 == 0) = false := by rw [beq_eq_false_iff_ne]; omega
    by_cases h1 : k ≤ 1
    rotate_left
    · rw [if_neg h1] at hr
      obtain ⟨rfl, rfl⟩ := Prod.mk.inj hr
      clear hr
      have h1' : decide (1 < k) = true := by simpa using h1
      go_enter Try.func56, Try.ntmps56
      go_wp2_with (go_at_call 88; refine (rfail_any g _ _ _ _ 11 _ hg).mono ?_; rintro r w2 ⟨rfl, ho2, hg2⟩)
      go_ret
      have hon : Only (fun k => k = g) w w2 := hon1.trans ho2
      exact ⟨rfl, ⟨(hon.below (B := wb.heap.size) (fun k e => by subst e; exact hgw) hws |> R.lw.trans), hgw, ⟨none, 0, SlAt.nil, by simp, by simp, hg2⟩, fun x hx => by cases hx⟩, hon⟩
    rw [if_pos h1] at hr
    obtain ⟨rfl, rfl⟩ := Prod.mk.inj hr
    clear hr
    have h1' : decide (1 < k) = false := by simpa using h1
    have hAd : SlAt U8.cells 1 wb (some ⟨b, off + 1, none⟩) t := by
      have := SlAt.drop hA 1
      simpa using this
    have hsl2 : (1 : Int) ≤ (c : Int) := by omega
    by_cases hc1 : c = 1
    · subst hc1
      have hrn : t = [] := List.eq_nil_of_length_eq_zero (by omega)
      subst hrn
      go_enter Try.func56, Try.ntmps56
      go_wp2_with fail
      go_ret
      have hon : Only (fun k => k = g) w (w.setCell ⟨g, 0, none⟩ (.slice (some ⟨b, off, none⟩) 0 0)) := Only.setCell (s := fun k => k = g) Only.refl (.inl rfl) _
      exact ⟨rfl, ⟨(hon.below (B := wb.heap.size) (fun k e => by subst e; exact hgw) hws |> R.lw.trans), hgw, ⟨some ⟨b, off, none⟩, 0, SlAt.nil, by simp, by simp, (blk_set hg 0 _).trans rfl⟩, hby.drop 1⟩, hon⟩
    · go_enter Try.func56, Try.ntmps56
      go_wp2_with fail
      go_ret
      have hon : Only (fun k => k = g) w (w.setCell ⟨g, 0, none⟩ (.slice (some ⟨b, off + 1, none⟩) t.length (c - 1))) := Only.setCell (s := fun k => k = g) Only.refl (.inl rfl) _
      exact ⟨rfl, ⟨(hon.below (B := wb.heap.size) (fun k e => by subst e; exact hgw) hws |> R.lw.trans), hgw, ⟨some ⟨b, off + 1, none⟩, c - 1, hAd, by show t.length ≤ c - 1; omega, by omega, (blk_set hg 0 _).trans rfl⟩, hby.drop 1⟩, hon⟩
set_option maxHeartbeats 1000000 in
theorem rdone_any (wb : World) (g : Nat) (st : List Int × Int) (w : World) (R : RR wb g w st) :
    Calls Try.prog 57 #[.pointer (some ⟨g, 0, none⟩)] w fun r w' => r = .returned (.int .i64 (if st.2 = 0 ∧ st.1 ≠ [] then 11 else st.2)) ∧ Below w.heap.size w w' := by
  obtain ⟨l, e⟩ := st
  obtain ⟨A, c, hA, hlc, hcm, hg⟩ := R.s
  simp only at hA hlc hg
  have BG := boxed hg
  have hcm' : c ≤ 9223372036854775807 := by unfold maxLen at hcm; omega
  obtain ⟨V, hV⟩ : ∃ V : Int, V = (if e = 0 ∧ l ≠ [] then 11 else e) := ⟨_, rfl⟩
  simp only
  rw [← hV]
  by_cases he : e = 0
  rotate_left
  · have he' : (e == 0) = false := by simpa using he
    have HV := hide (show V = e by rw [hV, if_neg (fun h => he h.1)])
    clear hV
    go_enter Try.func57, Try.ntmps57
    go_wp2_with fail
    go_ret
    exact ⟨ret_int HV.out.symm, below_of⟩
  subst he
  by_cases hl : l.length = 0
  · have hln : l = [] := List.eq_nil_of_length_eq_zero hl
    have HV := hide (show V = 0 by rw [hV, if_neg (fun h => h.2 hln)])
    clear hV
    rw [hl] at hg BG
    go_enter Try.func57, Try.ntmps57
    go_wp2_with fail
    go_ret
    exact ⟨ret_int HV.out.symm, below_of⟩
  · have HV := hide (show V = 11 by rw [hV, if_pos ⟨rfl, fun h => hl (by rw [h]; rfl)⟩])
    have hl0 : 0 < l.length := by omega
    have hl1 : (0 : Int) < (l.length : Int) := by omega
    clear hV hl
    go_enter Try.func57, Try.ntmps57
    go_wp2_with fail
    go_ret
    exact ⟨ret_int HV.out.symm, below_of⟩
end Go.Proofs.Ytomgdkfoinojiaa

/-
  Contracts of the functions of this seat that each theorem names: what a call returns, and that it writes nothing that was there before. The conditions stand in each theorem.
-/
import Derived.Test.YtgddapgdeaeggaaWireRead5
namespace Go.Proofs.Ytgddapgdeaeggaa
open Go.RowKit
attribute [local go_sem] Instr.makeFunc
/-! Count -/
def cntE (m n : Int) (k : Nat) : Int := if m < n then 8 else if (k : Int) < n then 11 else 0
set_option maxRecDepth 100000 in
set_option maxHeartbeats 2000000 in
theorem count1_any (bm bn br g : Nat) (m n e : Int) (A : Option Addr) (c k : Nat) (w : World) (hm0 : 0 ≤ m) (hm1 : m ≤ 1000000) (hk : k ≤ 9223372036854775807)
    (hg : w.heap[g]? = some (.cells #[.slice A k c, .int .i64 e] 107 (0, 0))) (hbr : w.heap[br]? = some (.cells #[.pointer (some ⟨g, 0, none⟩)] 84 (0, 0)))
    (hbm : w.heap[bm]? = some (.cells #[.int .i64 m] 3 (0, 0))) (hbn : w.heap[bn]? = some (.cells #[.int .u64 n] 32 (0, 0))) :
    Calls Try.prog 72 #[.pointer (some ⟨bm, 0, none⟩), .pointer (some ⟨bn, 0, none⟩), .pointer (some ⟨br, 0, none⟩)] w fun r w' => r = .returned (.int .i64 (cntE m n k)) ∧ Below w.heap.size w w' := by
  have BG := boxed hg
  have BR := boxed hbr
  have BM := boxed hbm
  have BN := boxed hbn
  have hm : decide (m < 0) = false := by simpa using hm0
  by_cases h1 : m < n
  · have hc := hide (show cntE m n k = 8 by simp [cntE, h1])
    go_enter Try.func72, Try.ntmps72
    go_wp2_with fail
    go_ret
    exact ⟨ret_int hc.out.symm, below_of⟩
  have h1' : decide (m < n) = false := by simpa using h1
  by_cases h2 : (k : Int) < n
  · have hc := hide (show cntE m n k = 11 by simp [cntE, h1, h2])
    go_enter Try.func72, Try.ntmps72
    go_upto_region 3 with fail
    (refine wp_region_after (by kernel_rfl) (by kernel_rfl) ?_
     repeat (any_goals (first | go_big_quiet_skip | (go_big_quiet_want; go_big_quiet_op; first | go_big_quiet_on | go_big_quiet_call (fail)) | quiet_step (fail) | (refine wpQuiet_step (fun K hK => ?_); go_simp; split <;> (refine hK _ ?_; clear hK K))))
     all_goals (refine wpQuiet_nil ?_; intro _ hw'; obtain ⟨u', hw''⟩ := hw'; subst hw''; obtain ⟨wd, hbd⟩ := u'; simp only [After.val_mk]))
    have ld := later hbd
    go_wp2_with fail
    go_ret
    exact ⟨ret_int hc.out.symm, below_of⟩
  · have hc := hide (show cntE m n k = 0 by simp [cntE, h1, h2])
    have h2' : decide ((k : Int) < n) = false := by simpa using h2
    go_enter Try.func72, Try.ntmps72
    go_upto_region 3 with fail
    (refine wp_region_after (by kernel_rfl) (by kernel_rfl) ?_
     repeat (any_goals (first | go_big_quiet_skip | (go_big_quiet_want; go_big_quiet_op; first | go_big_quiet_on | go_big_quiet_call (fail)) | quiet_step (fail) | (refine wpQuiet_step (fun K hK => ?_); go_simp; split <;> (refine hK _ ?_; clear hK K))))
     all_goals (refine wpQuiet_nil ?_; intro _ hw'; obtain ⟨u', hw''⟩ := hw'; subst hw''; obtain ⟨wd, hbd⟩ := u'; simp only [After.val_mk]))
    have ld := later hbd
    go_wp2_with fail
    go_ret
    exact ⟨ret_int hc.out.symm, below_of⟩
def rdC (m : Int) (st : List Int × Int) : Int × (List Int × Int) := if (rdU st).2.2 = 0 then (if cntE m (rdU st).1 (rdU st).2.1.length = 0 then rdU st else (0, ([], cntE m (rdU st).1 (rdU st).2.1.length))) else (0, (rdU st).2)
set_option maxRecDepth 100000 in
set_option maxHeartbeats 4000000 in
theorem count_any (wb : World) (g : Nat) (m : Int) (st : List Int × Int) (w : World) (R : RD wb g w st) (hm0 : 0 ≤ m) (hm1 : m ≤ 1000000) :
    Calls Try.prog 50 #[.pointer (some ⟨g, 0, none⟩), .int .i64 m] w (RPost (.int .i64 (rdC m st).1) wb g (rdC m st).2 w) := by
  obtain ⟨A0, c0, hA0, hlc0, hcm0, hg0⟩ := R.s
  have hgl := blk_lt hg0
  have hgw := R.gw
  have lw : Later wb w := ⟨R.lw⟩
  have hws := R.lw.size
  have hur := rdU_range R.by_
  obtain ⟨x, hx⟩ : ∃ x, rdC m st = x := ⟨_, rfl⟩
  rw [hx]
  obtain ⟨u, hu⟩ : ∃ u, rdU st = u := ⟨_, rfl⟩
  unfold rdC at hx
  rw [hu] at hx hur
  obtain ⟨n, l, e⟩ := u
  simp only at hx hur
  go_enter Try.func50, Try.ntmps50
  go_upto_region 1 with fail
  refine wp_name ?_
  intro w1 hw1
  have l1 := later_name' hw1 (inferInstance : Later w _)
  have hb1 : w1.heap[w.heap.size]? = some (.cells #[.pointer (some ⟨g, 0, none⟩)] 84 (0, 0)) := (by rw [← hw1]; simp only [heap_alloc_if, World.size_alloc]; repeat (first | rw [if_pos trivial] | rw [if_neg (by omega)] | rw [if_pos (by omega)]); try rfl)
  have hm1' : w1.heap[w.heap.size + 1]? = some (.cells #[.int .i64 m] 3 (0, 0)) := (by rw [← hw1]; simp only [heap_alloc_if, World.size_alloc]; repeat (first | rw [if_pos trivial] | rw [if_neg (by omega)] | rw [if_pos (by omega)]); try rfl)
  have hbel : Below w.heap.size w w1 := below_of
  have hsz1 := hide (show w1.heap.size = w.heap.size + 1 + 1 by rw [← hw1]; simp)
  clear hw1
  have R1 : RD wb g w1 st := ⟨R.lw.trans (hbel.mono hws), hgw, ⟨A0, c0, hA0, hlc0, hcm0, (hbel.block g hgl).trans hg0⟩, R.by_⟩
  have BR := boxed hb1
  have BM := boxed hm1'
  have HU := uint_any wb g st w1 R1
  rw [hu] at HU
  go_wp2_with (go_at_call 70; refine HU.mono ?_)
  intro r w2 h2
  obtain ⟨rfl, R2, hon2⟩ := h2
  obtain ⟨A, c, hA, hlc, hcm, hg2⟩ := R2.s
  simp only at hA hlc hg2
  have hb2 := hon2.boxed hb1 (by omega)
  have hm2 := hon2.boxed hm1' (by omega)
  have hs2 := hon2.size
  have hsz2 : w.heap.size + 1 + 1 ≤ w2.heap.size := by rw [← hsz1.out]; exact hs2
  clear BR BM R1
  go_upto_region 2 with fail
  refine wp_name ?_
  intro w3 hw3
  have l3 := later_name' hw3 (inferInstance : Later w2 _)
  have hn3 : w3.heap[w2.heap.size]? = some (.cells #[.int .u64 n] 32 (0, 0)) := (by rw [← hw3]; simp only [heap_alloc_if, World.size_alloc]; repeat (first | rw [if_pos trivial] | rw [if_neg (by omega)] | rw [if_pos (by omega)]); try rfl)
  have hbel3 : Below w2.heap.size w2 w3 := below_of
  clear hw3
  have hb3 := (hbel3.block _ (blk_lt hb2)).trans hb2
  have hm3 := (hbel3.block _ (blk_lt hm2)).trans hm2
  have hg3 := (hbel3.block _ (blk_lt hg2)).trans hg2
  have BR := boxed hb3
  have BM := boxed hm3
  have BN := boxed hn3
  have BG := boxed hg3
  have hon3 : Only (fun k => k = g) w w3 := ((Only.of_below hbel).trans hon2).trans (Only.of_below hbel3)
  have hk63 : l.length ≤ 9223372036854775807 := by have : maxLen ≤ 9223372036854775807 := by unfold maxLen; omega
                                                   omega
  by_cases he : e = 0
  rotate_left
  · rw [if_neg he] at hx
    subst hx
    go_wp2_with (go_at_call 71; refine (show Calls _ _ _ _ (TNot w3) from try_not _ e he hg3).mono ?_)
    intro r w4 h4
    obtain ⟨rfl, hb4⟩ := h4
    have l4 := later hb4
    have hon : Only (fun k => k = g) w w4 := hon3.trans (Only.of_below hb4)
    go_wp2_with fail
    go_ret
    exact ⟨rfl, ⟨(hon.below (B := wb.heap.size) (fun k e => by subst e; exact hgw) hws |> R.lw.trans), hgw, ⟨A, c, hA, hlc, hcm, (hb4.block g (blk_lt hg3)).trans hg3⟩, R2.by_⟩, hon⟩
  subst he
  rw [if_pos rfl] at hx
  have HC := count1_any (w.heap.size + 1) w2.heap.size w.heap.size g m n 0 A c l.length w3 hm0 hm1 hk63 hg3 hb3 hm3 hn3
  by_cases hc : cntE m n l.length = 0
  · rw [if_pos hc] at hx
    subst hx
    rw [hc] at HC
    have hnm : n ≤ 1000000 := by unfold cntE at hc; split at hc; cases hc; omega
    have HT : Calls Try.prog _ _ w3 (TOk (Below w3.heap.size w3) g) := tryC_ok (Q := Below w3.heap.size w3) _ _ _ hg3 HC (fun w' hb => ⟨_, (hb.block g (blk_lt hg3)).trans hg3⟩)
    go_wp2_with (go_at_call 71; refine HT.mono ?_)
    intro r w5 h5
    obtain ⟨rfl, w4, hb4, ho5, hg5⟩ := h5
    have hn4 := (hb4.block _ (blk_lt hn3)).trans hn3
    have BN5 := boxed ((ho5.block _ (blk_lt hn4) (by omega)).trans hn4)
    have hon : Only (fun k => k = g) w w5 := (hon3.trans (Only.of_below hb4)).trans ho5
    go_wp2_with fail
    go_ret
    exact ⟨rfl, ⟨(hon.below (B := wb.heap.size) (fun k e => by subst e; exact hgw) hws |> R.lw.trans), hgw, ⟨A, c, hA, hlc, hcm, hg5.trans ((hb4.block g (blk_lt hg3)).trans hg3)⟩, R2.by_⟩, hon⟩
  · rw [if_neg hc] at hx
    subst hx
    have HT : Calls Try.prog _ _ w3 (TBad (Below w3.heap.size w3) g (cntE m n l.length)) := tryC_bad (Q := Below w3.heap.size w3) hc _ _ _ hg3 HC (fun w' hb => ⟨_, (hb.block g (blk_lt hg3)).trans hg3⟩)
    go_wp2_with (go_at_call 71; refine HT.mono ?_)
    intro r w5 h5
    obtain ⟨rfl, w4, hb4, ho5, hg5⟩ := h5
    have hon : Only (fun k => k = g) w w5 := (hon3.trans (Only.of_below hb4)).trans ho5
    go_wp2_with fail
    go_ret
    exact ⟨rfl, ⟨(hon.below (B := wb.heap.size) (fun k e => by subst e; exact hgw) hws |> R.lw.trans), hgw, ⟨none, 0, SlAt.nil, by simp, by simp, hg5⟩, fun x hx => by cases hx⟩, hon⟩
set_option maxHeartbeats 1000000 in
theorem done_any (wb : World) (g : Nat) (st : List Int × Int) (w : World) (R : RD wb g w st) :
    Calls Try.prog 52 #[.pointer (some ⟨g, 0, none⟩)] w fun r w' => r = .returned (.int .i64 (if st.2 = 0 ∧ st.1 ≠ [] then 11 else st.2)) ∧ Below w.heap.size w w' := by
  obtain ⟨l, e⟩ := st
  obtain ⟨A, c, hA, hlc, hcm, hg⟩ := R.s
  simp only at hA hlc hg
  have BG := boxed hg
  have hk63 : l.length ≤ 9223372036854775807 := by have : maxLen ≤ 9223372036854775807 := by unfold maxLen; omega
                                                   omega
  by_cases he : e = 0
  · subst he
    cases l with
    | nil =>
      go_enter Try.func52, Try.ntmps52
      go_wp2_with fail
      go_ret
      exact ⟨by simp, below_of⟩
    | cons x t =>
      have h0 : (0 : Int) < (t.length : Int) + 1 := by omega
      simp only [List.length_cons] at hg BG hlc hk63
      go_enter Try.func52, Try.ntmps52
      go_wp2_with fail
      all_goals (try (exfalso; omega))
      all_goals go_ret
      all_goals exact ⟨by simp, below_of⟩
  · have he' : (e == 0) = false := by simp [he]
    go_enter Try.func52, Try.ntmps52
    go_wp2_with fail
    go_ret
    exact ⟨by simp [he], below_of⟩
end Go.Proofs.Ytgddapgdeaeggaa

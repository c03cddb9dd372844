/-
  Contracts of the functions of this seat that each theorem names: what a call returns, and that it writes nothing that was there before. The conditions stand in each theorem.
-/
import Derived.Test.YtgddapgdeaeggaaWireRead7
namespace Go.Proofs.Ytgddapgdeaeggaa
open Go.RowKit
attribute [local go_sem] Instr.makeFunc
set_option maxHeartbeats 1000000 in
theorem tryI_ok {g : Nat} {w : World} {Q : World → Prop} {bv : Value} (v1 v2 : Value) (hg : w.heap[g]? = some (.cells #[bv, .int .i64 0] 107 (0, 0))) (HC : Calls Try.prog 81 #[v1, v2] w fun r w' => r = .returned (.int .i64 0) ∧ Q w') (hQ : ∀ w', Q w' → ∃ v, w'.heap[g]? = some (.cells #[v, .int .i64 0] 107 (0, 0))) :
    Calls Try.prog 71 #[.pointer (some ⟨g, 0, none⟩), .func (.func 81) #[] #[v1, v2]] w fun r w' => r = .returned (.bool true) ∧ ∃ w1, Q w1 ∧ Only (fun k => k = g) w1 w' ∧ w'.heap[g]? = w1.heap[g]? := by
  have BG := boxed hg
  go_enter Try.func71, Try.ntmps71
  go_wp2_with (go_at_call 81; refine HC.mono ?_)
  rintro r w1 ⟨rfl, hq⟩
  obtain ⟨v, hv⟩ := hQ w1 hq
  have BV := boxed hv
  go_upto_region 4 with fail
  refine wp_name ?_
  intro w2 hw2
  have B2 := boxed_set BV hw2
  go_wp2_with fail
  go_ret
  exact ⟨rfl, w1, hq, by rw [← hw2]; exact Only.setCell (s := fun k => k = g) (p := ⟨g, 1, none⟩) Only.refl (.inl rfl) _, by rw [hv]; exact (B2 w2).1.trans rfl⟩
set_option maxHeartbeats 1000000 in
theorem tryI_bad {g : Nat} {w : World} {Q : World → Prop} {bv : Value} {x : Int} (hx : x ≠ 0) (v1 v2 : Value) (hg : w.heap[g]? = some (.cells #[bv, .int .i64 0] 107 (0, 0))) (HC : Calls Try.prog 81 #[v1, v2] w fun r w' => r = .returned (.int .i64 x) ∧ Q w') (hQ : ∀ w', Q w' → ∃ v, w'.heap[g]? = some (.cells #[v, .int .i64 0] 107 (0, 0))) :
    Calls Try.prog 71 #[.pointer (some ⟨g, 0, none⟩), .func (.func 81) #[] #[v1, v2]] w fun r w' => r = .returned (.bool false) ∧ ∃ w1, Q w1 ∧ Only (fun k => k = g) w1 w' ∧ w'.heap[g]? = some (.cells #[.slice none 0 0, .int .i64 x] 107 (0, 0)) := by
  have BG := boxed hg
  have hx' : (x != 0) = true := by simp [hx]
  have hx2 : (x == 0) = false := by simp [hx]
  go_enter Try.func71, Try.ntmps71
  go_wp2_with (go_at_call 81; refine HC.mono ?_)
  rintro r w1 ⟨rfl, hq⟩
  obtain ⟨v, hv⟩ := hQ w1 hq
  have BV := boxed hv
  go_upto_region 4 with fail
  refine wp_name ?_
  intro w2 hw2
  have B2 := boxed_set BV hw2
  go_upto_region 6 with fail
  refine wp_name ?_
  intro w3 hw3
  have B3 := boxed_set B2 hw3
  go_wp2_with fail
  go_ret
  exact ⟨rfl, w1, hq, by rw [← hw3, ← hw2]; exact Only.setCell (s := fun k => k = g) (p := ⟨g, 0, none⟩) (Only.setCell (s := fun k => k = g) (p := ⟨g, 1, none⟩) Only.refl (.inl rfl) _) (.inl rfl) _, (B3 w3).1.trans rfl⟩
/-! ID -/
def okI (m s : Int) : Bool := (m == 0 && s == 0) || (decide (1 ≤ m) && (decide (m ≤ 8) && (decide (1 ≤ s) && decide (s ≤ 1099511627775))))
def idE1 (m s : Int) : Int := if okI m s then 0 else 11
set_option maxRecDepth 100000 in
set_option maxHeartbeats 2000000 in
theorem id1_any (bm bs : Nat) (m s : Int) (w : World) (hm : w.heap[bm]? = some (.cells #[.int .u64 m] 32 (0, 0))) (hs : w.heap[bs]? = some (.cells #[.int .u64 s] 32 (0, 0))) :
    Calls Try.prog 81 #[.pointer (some ⟨bm, 0, none⟩), .pointer (some ⟨bs, 0, none⟩)] w fun r w' => r = .returned (.int .i64 (idE1 m s)) ∧ Below w.heap.size w w' := by
  have BM := boxed hm
  have BS := boxed hs
  obtain ⟨e, he⟩ : ∃ e, e = idE1 m s := ⟨_, rfl⟩
  rw [← he]
  have He := hide he
  clear he
  go_enter Try.func81, Try.ntmps81
  go_wp2_with fail
  all_goals go_ret
  all_goals exact ⟨ret_int (by rw [He.out]; first | (simp [idE1, okI, *]; done) | (simp [idE1, okI, *]; omega) | (simp [idE1, okI, *]; rename_i h; simp at h; omega)), below_of⟩
def rdI (st : List Int × Int) : (Int × Int) × (List Int × Int) :=
  if (rdU (rdU st).2).2.2 = 0 then (if okI (rdU st).1 (rdU (rdU st).2).1 then (((rdU st).1, (rdU (rdU st).2).1), (rdU (rdU st).2).2) else ((0, 0), ([], 11))) else ((0, 0), (rdU (rdU st).2).2)
theorem okI_range {m s : Int} (h : okI m s = true) : 0 ≤ m ∧ m ≤ 8 ∧ 0 ≤ s ∧ s ≤ 1099511627775 := by
  simp only [okI, Bool.or_eq_true, Bool.and_eq_true, beq_iff_eq, decide_eq_true_eq] at h
  omega
set_option maxRecDepth 100000 in
set_option maxHeartbeats 4000000 in
theorem id_any (wb : World) (g : Nat) (st : List Int × Int) (w : World) (R : RD wb g w st) :
    Calls Try.prog 73 #[.pointer (some ⟨g, 0, none⟩)] w (RPost (.agg #[.int .i64 (rdI st).1.1, .int .i64 (rdI st).1.2]) wb g (rdI st).2 w) := by
  obtain ⟨A0, c0, hA0, hlc0, hcm0, hg0⟩ := R.s
  have hgl := blk_lt hg0
  have hgw := R.gw
  have lw : Later wb w := ⟨R.lw⟩
  have hws := R.lw.size
  obtain ⟨x, hx⟩ : ∃ x, rdI st = x := ⟨_, rfl⟩
  rw [hx]
  unfold rdI at hx
  have HU := uint_any wb g st
  have hur := rdU_range R.by_
  obtain ⟨u, hu⟩ : ∃ u, rdU st = u := ⟨_, rfl⟩
  rw [hu] at hx HU hur
  obtain ⟨m, s1⟩ := u
  have HV := uint_any wb g s1
  obtain ⟨u, hv⟩ : ∃ u, rdU s1 = u := ⟨_, rfl⟩
  simp only at hx HU hur
  rw [hv] at hx HV
  obtain ⟨s, l, e⟩ := u
  simp only at hx HV
  go_enter Try.func73, Try.ntmps73
  go_upto_region 1 with fail
  refine wp_name ?_
  intro w1 hw1
  have l1 := later_name' hw1 (inferInstance : Later w _)
  have hb1 : w1.heap[w.heap.size]? = some (.cells #[.int .i64 0, .int .i64 0] 34 (0, 0)) := (by rw [← hw1]; simp only [heap_alloc_if, World.size_alloc]; repeat (first | rw [if_pos trivial] | rw [if_neg (by omega)] | rw [if_pos (by omega)]); try rfl)
  have hbel : Below w.heap.size w w1 := below_of
  clear hw1
  have R1 : RD wb g w1 st := ⟨R.lw.trans (hbel.mono hws), hgw, ⟨A0, c0, hA0, hlc0, hcm0, (hbel.block g hgl).trans hg0⟩, R.by_⟩
  go_wp2_with (go_at_call 70; refine (HU _ R1).mono ?_)
  intro r w2 h2
  obtain ⟨rfl, R2, hon2⟩ := h2
  go_wp2_with (go_at_call 70; refine (HV _ R2).mono ?_)
  intro r w3 h3
  obtain ⟨rfl, R3, hon3⟩ := h3
  obtain ⟨A, c, hA, hlc, hcm, hg3⟩ := R3.s
  simp only at hA hlc hg3
  have hb3 := (hon2.trans hon3).boxed hb1 (by omega)
  have hs3 := (hon2.trans hon3).size
  have hz3 : w.heap.size < w3.heap.size := blk_lt hb3
  have l3 : Later w3 w3 := Later.refl
  go_upto_region 2 with fail
  refine wp_name ?_
  intro w4 hw4
  have l4 := later_name' hw4 (inferInstance : Later w3 _)
  have hm4 : w4.heap[w3.heap.size]? = some (.cells #[.int .u64 m] 32 (0, 0)) := (by rw [← hw4]; simp only [heap_alloc_if, World.size_alloc]; repeat (first | rw [if_pos trivial] | rw [if_neg (by omega)] | rw [if_pos (by omega)]); try rfl)
  have hs4 : w4.heap[w3.heap.size + 1]? = some (.cells #[.int .u64 s] 32 (0, 0)) := (by rw [← hw4]; simp only [heap_alloc_if, World.size_alloc]; repeat (first | rw [if_pos trivial] | rw [if_neg (by omega)] | rw [if_pos (by omega)]); try rfl)
  have hbel4 : Below w3.heap.size w3 w4 := below_of
  clear hw4
  have hg4 := (hbel4.block _ (blk_lt hg3)).trans hg3
  have hb4 := (hbel4.block _ (blk_lt hb3)).trans hb3
  have BM := boxed hm4
  have BS := boxed hs4
  have B0 := boxed hb4
  have hon4 : Only (fun k => k = g) w w4 := (((Only.of_below hbel).trans hon2).trans hon3).trans (Only.of_below hbel4)
  by_cases he : e = 0
  rotate_left
  · rw [if_neg he] at hx
    subst hx
    go_wp2_with (go_at_call 71; refine (show Calls _ _ _ _ (TNot w4) from try_not _ e he hg4).mono ?_)
    intro r w5 h5
    obtain ⟨rfl, hb5⟩ := h5
    have l5 := later hb5
    have hon : Only (fun k => k = g) w w5 := hon4.trans (Only.of_below hb5)
    go_wp2_with fail
    refine bodyPost_ret (v := .agg #[.int .i64 0, .int .i64 0]) (by simp [results, Try.results73, go_sem, (B0 w5).2]) rfl ?_
    have onf : Only (fun k => k = g) w _ := hon.trans' (Only.setCell (s := fun k => k = w.heap.size) (p := ⟨w.heap.size, 1, none⟩) (Only.setCell (s := fun k => k = w.heap.size) (p := ⟨w.heap.size, 0, none⟩) Only.refl (.inl rfl) (.int .i64 0)) (.inl rfl) (.int .i64 0)) (fun k hk h => by omega)
    exact ⟨rfl, ⟨(onf.below (B := wb.heap.size) (fun k e => by subst e; exact hgw) hws |> R.lw.trans), hgw, ⟨A, c, hA, hlc, hcm, (Only.setCell (s := fun k => k = w.heap.size) (p := ⟨w.heap.size, 1, none⟩) (Only.setCell (s := fun k => k = w.heap.size) (p := ⟨w.heap.size, 0, none⟩) Only.refl (.inl rfl) _) (.inl rfl) _).boxed ((hb5.block g (blk_lt hg4)).trans hg4) (by omega)⟩, R3.by_⟩, onf⟩
  subst he
  rw [if_pos rfl] at hx
  have HC := id1_any w3.heap.size (w3.heap.size + 1) m s w4 hm4 hs4
  cases hc : okI m s
  · rw [hc] at hx
    simp only [Bool.false_eq_true, if_false] at hx
    subst hx
    rw [show idE1 m s = 11 by simp [idE1, hc]] at HC
    have HT : Calls Try.prog _ _ w4 (TBad (Below w4.heap.size w4) g 11) := tryI_bad (Q := Below w4.heap.size w4) (by decide) _ _ hg4 HC (fun w' hb => ⟨_, (hb.block g (blk_lt hg4)).trans hg4⟩)
    go_wp2_with (go_at_call 71; refine HT.mono ?_)
    intro r w6 h6
    obtain ⟨rfl, w5, hb5, ho6, hg6⟩ := h6
    have hb0 := ho6.boxed ((hb5.block _ (blk_lt hb4)).trans hb4) (by omega)
    have B6 := boxed hb0
    have hon : Only (fun k => k = g) w w6 := (hon4.trans (Only.of_below hb5)).trans ho6
    go_wp2_with fail
    refine bodyPost_ret (v := .agg #[.int .i64 0, .int .i64 0]) (by simp [results, Try.results73, go_sem, (B6 w6).2]) rfl ?_
    have onf : Only (fun k => k = g) w _ := hon.trans' (Only.setCell (s := fun k => k = w.heap.size) (p := ⟨w.heap.size, 1, none⟩) (Only.setCell (s := fun k => k = w.heap.size) (p := ⟨w.heap.size, 0, none⟩) Only.refl (.inl rfl) (.int .i64 0)) (.inl rfl) (.int .i64 0)) (fun k hk h => by omega)
    exact ⟨rfl, ⟨(onf.below (B := wb.heap.size) (fun k e => by subst e; exact hgw) hws |> R.lw.trans), hgw, ⟨none, 0, SlAt.nil, by simp, by simp, (Only.setCell (s := fun k => k = w.heap.size) (p := ⟨w.heap.size, 1, none⟩) (Only.setCell (s := fun k => k = w.heap.size) (p := ⟨w.heap.size, 0, none⟩) Only.refl (.inl rfl) _) (.inl rfl) _).boxed hg6 (by omega)⟩, fun x hx => by cases hx⟩, onf⟩
  · rw [hc] at hx
    simp only [if_true] at hx
    subst hx
    rw [show idE1 m s = 0 by simp [idE1, hc]] at HC
    obtain ⟨r1, r2, r3, r4⟩ := okI_range hc
    have HT : Calls Try.prog _ _ w4 (TOk (Below w4.heap.size w4) g) := tryI_ok (Q := Below w4.heap.size w4) _ _ hg4 HC (fun w' hb => ⟨_, (hb.block g (blk_lt hg4)).trans hg4⟩)
    go_wp2_with (go_at_call 71; refine HT.mono ?_)
    intro r w6 h6
    obtain ⟨rfl, w5, hb5, ho6, hg6⟩ := h6
    have hb0 := ho6.boxed ((hb5.block _ (blk_lt hb4)).trans hb4) (by omega)
    have hm6 := ho6.boxed ((hb5.block _ (blk_lt hm4)).trans hm4) (by omega)
    have hs6 := ho6.boxed ((hb5.block _ (blk_lt hs4)).trans hs4) (by omega)
    have B6 := boxed hb0
    have M6 := boxed hm6
    have S6 := boxed hs6
    have hon : Only (fun k => k = g) w w6 := (hon4.trans (Only.of_below hb5)).trans ho6
    clear BM BS B0
    go_wp2_with fail
    refine bodyPost_ret (v := .agg #[.int .i64 m, .int .i64 s]) (by simp [results, Try.results73, go_sem, (B6 w6).2]) rfl ?_
    have onf : Only (fun k => k = g) w _ := hon.trans' (Only.setCell (s := fun k => k = w.heap.size) (p := ⟨w.heap.size, 1, none⟩) (Only.setCell (s := fun k => k = w.heap.size) (p := ⟨w.heap.size, 0, none⟩) Only.refl (.inl rfl) (.int .i64 m)) (.inl rfl) (.int .i64 s)) (fun k hk h => by omega)
    exact ⟨rfl, ⟨(onf.below (B := wb.heap.size) (fun k e => by subst e; exact hgw) hws |> R.lw.trans), hgw, ⟨A, c, hA, hlc, hcm, (Only.setCell (s := fun k => k = w.heap.size) (p := ⟨w.heap.size, 1, none⟩) (Only.setCell (s := fun k => k = w.heap.size) (p := ⟨w.heap.size, 0, none⟩) Only.refl (.inl rfl) _) (.inl rfl) _).boxed (hg6.trans ((hb5.block g (blk_lt hg4)).trans hg4)) (by omega)⟩, R3.by_⟩, onf⟩
end Go.Proofs.Ytgddapgdeaeggaa

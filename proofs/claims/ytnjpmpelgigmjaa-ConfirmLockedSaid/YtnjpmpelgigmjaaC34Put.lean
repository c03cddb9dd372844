/-
  Contracts of the functions of this seat that each theorem names: what a call returns, and that it writes nothing that was there before. The conditions stand in each theorem.
-/
import Derived.Test.YtnjpmpelgigmjaaC34PlainT
import Derived.Test.YtnjpmpelgigmjaaC34Delete
import Derived.Test.YtnjpmpelgigmjaaSliceLib
import Derived.Deep.RegionHeld3
namespace Go.Proofs.Ytnjpmpelgigmjaa
open Go.RowKit
attribute [local simp] heap_drew
attribute [local go_sem ↓] run_eql_trace run_neq_trace
set_option maxHeartbeats 1000000 in
theorem before_any (x y : TraceE) (w : World) : Calls Try.prog 28 #[.agg #[.int .i64 x.machine, .int .i64 x.serial], .agg #[.int .i64 y.machine, .int .i64 y.serial]] w fun r w' => r = .returned (.bool (decide (ltT x y))) ∧ Below w.heap.size w w' := by
  obtain ⟨b, hb⟩ : ∃ b, b = decide (ltT x y) := ⟨_, rfl⟩
  rw [← hb]
  have Hb := hide hb
  clear hb
  go_enter Try.func28, Try.ntmps28
  by_cases h1 : x.machine < y.machine
  · go_wp2
    all_goals go_ret
    all_goals exact ⟨ret_bool (by rw [Hb.out]; simp [ltT, h1]), (by repeat (first | with_reducible exact Below.refl _ _ | (with_reducible refine Below.drew ?_) | (with_reducible refine below_drewN ?_ _) | (with_reducible refine Below.alloc ?_ ?_ _; rotate_left; (first | omega | (simp <;> omega))) | (with_reducible refine Below.setCell ?_ ?_ _; rotate_left; (first | omega | (simp <;> omega)))))⟩
  · have h1' : decide (x.machine < y.machine) = false := by simpa using h1
    by_cases h2 : x.machine = y.machine
    · have h2' : (x.machine == y.machine) = true := by simpa using h2
      go_wp2
      all_goals go_ret
      all_goals exact ⟨ret_bool (by rw [Hb.out]; simp [ltT, h2]), (by repeat (first | with_reducible exact Below.refl _ _ | (with_reducible refine Below.drew ?_) | (with_reducible refine below_drewN ?_ _) | (with_reducible refine Below.alloc ?_ ?_ _; rotate_left; (first | omega | (simp <;> omega))) | (with_reducible refine Below.setCell ?_ ?_ _; rotate_left; (first | omega | (simp <;> omega)))))⟩
    · have h2' : (x.machine == y.machine) = false := by simpa using h2
      go_wp2
      all_goals go_ret
      all_goals exact ⟨ret_bool (by rw [Hb.out]; simp [ltT, h1, h2]), (by repeat (first | with_reducible exact Below.refl _ _ | (with_reducible refine Below.drew ?_) | (with_reducible refine below_drewN ?_ _) | (with_reducible refine Below.alloc ?_ ?_ _; rotate_left; (first | omega | (simp <;> omega))) | (with_reducible refine Below.setCell ?_ ?_ _; rotate_left; (first | omega | (simp <;> omega)))))⟩
def PutPost (w : World) (A : Option Addr) (c : Nat) (es : List TraceE) (e : TraceE) (r : Ending) (w' : World) : Prop := ∃ q A' c', Hid (q = putT es e) ∧ r = .returned (.slice A' q.length c') ∧ (∀ base, base ≤ w.heap.size → Own TraceE.cells 2 26 base w (.slice A es.length c) es → Own TraceE.cells 2 26 base w' (.slice A' q.length c') q) ∧ Below w.heap.size w w'
theorem PutPost.new {w w' : World} {A A' : Option Addr} {c c' n : Nat} {es L : List TraceE} {e : TraceE} {r : Ending} (Hp : Hid (putT es e = L)) (hpl : Hid ((putT es e).length = n)) (hr : r = .returned (.slice A' n c')) (ho : Own TraceE.cells 2 26 w.heap.size w' (.slice A' n c') L) (hb : Below w.heap.size w w') : PutPost w A c es e r w' := by
  refine ⟨putT es e, A', c', hide rfl, by rw [hpl.out]; exact hr, fun base hbb _ => ?_, hb⟩
  rw [hpl.out, Hp.out]; exact ho.mono hbb
theorem PutPost.old {w w' : World} {A : Option Addr} {c : Nat} {es : List TraceE} {e : TraceE} {r : Ending} (Hp : Hid (es = putT es e)) (hr : r = .returned (.slice A es.length c)) (hb : Below w.heap.size w w') : PutPost w A c es e r w' :=
  ⟨es, A, c, Hp, hr, fun _ _ ho => ho.below hb, hb⟩
set_option maxRecDepth 100000 in
set_option maxHeartbeats 4000000 in
theorem putT_any (A : Option Addr) (c : Nat) (es : List TraceE) (e : TraceE) (w : World) (hs : SlAt TraceE.cells 2 w A es) (hl : es.length ≤ 1000000000) (hc : es.length ≤ c) (hm : c ≤ maxLen) :
    Calls Try.prog 47 #[.slice A es.length c, .agg #[.int .i64 e.machine, .int .i64 e.serial]] w (PutPost w A c es e) := by
  have HL : ∀ u [Later w u], SlAt TraceE.cells 2 u A es := fun u i => hs.below i.below
  have hsl : es.length ≤ 9223372036854775807 := by omega
  cases hz : zeroT e
  rotate_left
  · have Hp := hide (show es = putT es e by unfold putT; rw [hz]; rfl)
    unfold zeroT at hz
    go_enter Try.func47, Try.ntmps47
    go_wp2_with fail
    go_ret
    exact PutPost.old Hp rfl below_of
  have Hz := hide hz
  unfold zeroT at hz
  go_enter Try.func47, Try.ntmps47
  go_upto_region 4 with fail
  refine wp_name ?_
  intro w0 hw0
  obtain ⟨B0, l0⟩ := box1 hw0
  clear hw0
  go_loopw [5] (fun i wr => ∃ k : Nat, k ≤ es.length ∧ i = .int .i64 k ∧ (∀ (j : Nat) (x : TraceE), j < k → es[j]? = some x → ltT x e) ∧ Below w0.heap.size w0 wr) (fun i _ => es.length - (intOf i).toNat)
  case atStart => exact ⟨0, by omega, rfl, fun j x h => absurd h (by omega), Below.refl _ _⟩
  case round =>
    obtain ⟨k, hk, rfl, hlo, hbw⟩ := hrel
    have lr := later hbw
    have Hlo := hide hlo
    clear hlo
    by_cases hlt : k < es.length
    · obtain ⟨x, hx⟩ : ∃ x, es[k]? = some x := ⟨_, List.getElem?_eq_getElem hlt⟩
      obtain ⟨g1, o1, rfl, C1, C2⟩ := trace_at (HL wr) hx
      have Hx := hide hx
      clear hx
      have hti : decide ((k : Int) < (es.length : Int)) = true := by simp; omega
      have HB : ∀ u, Calls Try.prog 28 #[.agg #[.int .i64 x.machine, .int .i64 x.serial], .agg #[.int .i64 e.machine, .int .i64 e.serial]] u fun r w' => r = .returned (.bool (decide (ltT x e))) ∧ Below u.heap.size u w' := fun u => before_any x e u
      by_cases hn : ltT x e
      · simp only [hn, decide_true] at HB
        go_upto_region 4 with fail
        (refine wp_region_after (by kernel_rfl) (by kernel_rfl) ?_
         repeat (any_goals (first | go_big_quiet_skip | (go_big_quiet_want; go_big_quiet_op; first | go_big_quiet_on | go_big_quiet_call ((go_at_call 28; exact Calls.after (HB _)))) | quiet_step ((go_at_call 28; exact Calls.after (HB _))) | (refine wpQuiet_step (fun K hK => ?_); go_simp; split <;> (refine hK _ ?_; clear hK K))))
         all_goals (refine wpQuiet_nil ?_; intro _ hw'; obtain ⟨u', hw''⟩ := hw'; subst hw''; obtain ⟨wd, hbd⟩ := u'; simp only [After.val_mk]))
        have ld := later hbd
        go_wp2_with fail
        go_roundw
        case rel => exact ⟨k + 1, by omega, by go_num, fun j y hj hy => by
          rcases Nat.lt_or_ge j k with h | h
          · exact Hlo.out j y h hy
          · have : j = k := by omega
            subst this
            rw [Hx.out] at hy; injection hy with hy; subst hy; exact hn, hbw.trans (hbd.mono hbw.size)⟩
        case measure => simp [intOf]; omega
      · simp only [hn, decide_false] at HB
        have Hk := hide (countT_eq (n := e) hk Hlo.out (fun y hy => by rw [Hx.out] at hy; injection hy with hy; subst hy; exact hn))
        go_upto_region 4 with fail
        (refine wp_region_after (by kernel_rfl) (by kernel_rfl) ?_
         repeat (any_goals (first | go_big_quiet_skip | (go_big_quiet_want; go_big_quiet_op; first | go_big_quiet_on | go_big_quiet_call ((go_at_call 28; exact Calls.after (HB _)))) | quiet_step ((go_at_call 28; exact Calls.after (HB _))) | (refine wpQuiet_step (fun K hK => ?_); go_simp; split <;> (refine hK _ ?_; clear hK K))))
         all_goals (refine wpQuiet_nil ?_; intro _ hw'; obtain ⟨u', hw''⟩ := hw'; subst hw''; obtain ⟨wd, hbd⟩ := u'; simp only [After.val_mk]))
        have ld := later hbd
        clear hbd
        have hteq := teq_dec x e
        cases hq : teq x.machine x.serial e.machine e.serial
        rotate_left
        · have Hp := hide (show es = putT es e by
            rw [hq] at hteq
            unfold putT; rw [Hz.out, ins_count, Hk.out, Hx.out]; simp at hteq; simp [hteq])
          clear hteq
          go_upto_region 6 with fail
          (refine wp_region_after (by kernel_rfl) (by kernel_rfl) ?_
           repeat (any_goals (first | go_big_quiet_skip | (go_big_quiet_want; go_big_quiet_op; first | go_big_quiet_on | go_big_quiet_call (fail)) | quiet_step (fail) | (refine wpQuiet_step (fun K hK => ?_); go_simp; split <;> (refine hK _ ?_; clear hK K))))
           all_goals (refine wpQuiet_nil ?_; intro _ hw'; obtain ⟨u', hw''⟩ := hw'; subst hw''; obtain ⟨wd, hbd⟩ := u'; simp only [After.val_mk]))
          have ld := later hbd
          go_wp2_with fail
          go_ret
          exact PutPost.old Hp rfl below_of
        · have Hp := hide (show putT es e = es.take k ++ [e] ++ es.drop k by
            rw [hq] at hteq
            unfold putT; rw [Hz.out, ins_count, Hk.out, Hx.out]; simp at hteq; simp [hteq])
          clear hteq
          have hpl := hide (show (putT es e).length = es.length + 1 by rw [Hp.out]; simp; omega)
          go_upto_region 6 with fail
          (refine wp_region_after (by kernel_rfl) (by kernel_rfl) ?_
           repeat (any_goals (first | go_big_quiet_skip | (go_big_quiet_want; go_big_quiet_op; first | go_big_quiet_on | go_big_quiet_call (fail)) | quiet_step (fail) | (refine wpQuiet_step (fun K hK => ?_); go_simp; split <;> (refine hK _ ?_; clear hK K))))
           all_goals (refine wpQuiet_nil ?_; intro _ hw'; obtain ⟨u', hw''⟩ := hw'; subst hw''; obtain ⟨wd, hbd⟩ := u'; simp only [After.val_mk]))
          have ld := later hbd
          go_upto_region 8 with fail
          refine wp_name ?_
          intro wz hwz
          have lz := later_name' hwz (inferInstance : Later w0 _)
          have hsrc : ∀ u [Later w u], SlAt TraceE.cells 2 u (if c = k then some ⟨g1, o1, none⟩ else some ⟨g1, o1 + k * 2, none⟩) (es.drop k) := fun u i => by rw [if_neg (by omega)]; exact SlAt.drop (HL u) k
          have hzb : w.heap.size < wz.heap.size := Nat.lt_of_lt_of_le (blk_lt (B0 w0).1) (lz w0).below.size
          have HZ := HL wz
          have hk0 : (0 : Int) ≤ (k : Int) := by omega
          have hkc : (k : Int) ≤ (c : Int) := by omega
          have hkl : (k : Int) ≤ (es.length : Int) := by omega
          have q0 := blk_cell (B0 wz).1 0
          have q1 := blk_cell (B0 wz).1 1
          simp at q0 q1
          clear hwz
          have htk : (es.take k).length = k := by rw [List.length_take]; omega
          have hdk : (es.drop k).length = es.length - k := by rw [List.length_drop]
          go_region_held3 (fun w' => w'.cell? ⟨w.heap.size, 0, none⟩ = some (.int .i64 e.machine) ∧ w'.cell? ⟨w.heap.size, 1, none⟩ = some (.int .i64 e.serial)) (first | go_keep)
            ((first
              | (have ho9 := ho2
                 refine step_app (P := Try.prog) rfl (.tmp 44) (.tmp 47) (by rfl) TraceE.enc traceT (if c = k then some ⟨g1, o1, none⟩ else some ⟨g1, o1 + k * 2, none⟩) (c - k) (es.drop k) (es.take k ++ [e]) (.slice A2 (k + 1) c2) (by rfl) (by rfl) (m := es.length - k) (n := es.length + 1) hdk (by simp only [List.length_append, htk, List.length_singleton] <;> omega) (ho2.later _) (hsrc _) (by omega) (by simp [maxLen]; omega) (by first | (simp; done) | (simp; omega) | omega) ?_
                 intro A3 c3 w3 ho3 hm3 hb3 hg3
                 have l3 := later_base (W := wz) hb3
                 have hz3 : wz.heap.size ≤ w3.heap.size := (l3 wz).below.size
                 have p0 := blk_cell (B0 w3).1 0
                 have p1 := blk_cell (B0 w3).1 1
                 simp at p0 p1)
              | (refine step_app rfl (.tmp 41) (.tmp 43) (by rfl) TraceE.enc traceT _ _ [e] (es.take k) _ (by rfl) (by rfl) (m := 1) (n := k + 1) rfl (by rw [htk]) (ho1.later _) (blk_slAt TraceE.enc (fr := (0, 0)) (e := 26) (by first | (exact (by (simp only [heap_drew, heap_alloc_if, World.size_alloc]); (repeat (first | rw [if_pos rfl] | rw [if_neg (by omega)] | rw [if_pos (by omega)])); try rfl)) | (refine (hgh _ (by first | (simp; done) | (simp; omega) | omega) (by simp [Value.ownBlock] <;> omega)).trans (by (simp only [heap_drew, heap_alloc_if, World.size_alloc]); (repeat (first | rw [if_pos rfl] | rw [if_neg (by omega)] | rw [if_pos (by omega)])); try rfl))) [e] (by rfl)) (by omega) (by simp [maxLen]; omega) (by first | (simp; done) | (simp; omega) | omega) ?_
                 intro A2 c2 w2 ho2 hm2 hb2 hg2
                 have l2 := later_base (W := wz) hb2
                 have hz2 : wz.heap.size ≤ w2.heap.size := (l2 wz).below.size
                 have p0 := blk_cell (B0 w2).1 0
                 have p1 := blk_cell (B0 w2).1 1
                 simp at p0 p1)
              | (refine step_app rfl (.tmp 37) (.tmp 40) (by rfl) TraceE.enc traceT _ _ (es.take k) ([] : List TraceE) (.slice (some ⟨_, 0, none⟩) 0 0) (by rfl) (by rfl) htk (Nat.zero_add _) (Own.empty_blk (base := wz.heap.size) (by first | (simp; done) | (simp; omega) | omega) (by (simp only [heap_drew, heap_alloc_if, World.size_alloc]); (repeat (first | rw [if_pos rfl] | rw [if_neg (by omega)] | rw [if_pos (by omega)])); try rfl)) ((HL _).take _) (by omega) (by simp [maxLen]; omega) (by first | (simp; done) | (simp; omega) | omega) ?_
                 intro A1 c1 w1 ho1 hm1 hb1 hg1
                 obtain ⟨-, -, -, -, hgh⟩ := hg1
                 have l1 := later_base (W := wz) hb1
                 have hz1 : wz.heap.size ≤ w1.heap.size := (l1 wz).below.size
                 have p0 := blk_cell (B0 w1).1 0
                 have p1 := blk_cell (B0 w1).1 1
                 simp at p0 p1)
              ))
          all_goals go_wp2_with fail
          all_goals go_ret
          all_goals exact PutPost.new Hp hpl rfl (Own.mono ho3 (by omega)) below_of
    · have hk' : k = es.length := by omega
      subst hk'
      have Hk := hide (countT_eq (n := e) hk Hlo.out (fun y hy => by rw [List.getElem?_eq_none (by omega)] at hy; cases hy))
      have Hp := hide (show putT es e = es.take es.length ++ [e] ++ ([] : List TraceE) by unfold putT; rw [Hz.out, ins_count, Hk.out, List.getElem?_eq_none (by omega)]; simp)
      have hpl := hide (show (putT es e).length = es.length + 1 by rw [Hp.out]; simp)
      have hti : decide ((es.length : Int) < (es.length : Int)) = false := by simp
      have hdr : es.drop es.length = [] := List.drop_length
      rcases A with _ | ad
      all_goals
        go_upto_region 4 with fail
        (refine wp_region_after (by kernel_rfl) (by kernel_rfl) ?_
         repeat (any_goals (first | go_big_quiet_skip | (go_big_quiet_want; go_big_quiet_op; first | go_big_quiet_on | go_big_quiet_call (fail)) | quiet_step (fail) | (refine wpQuiet_step (fun K hK => ?_); go_simp; split <;> (refine hK _ ?_; clear hK K))))
         all_goals (refine wpQuiet_nil ?_; intro _ hw'; obtain ⟨u', hw''⟩ := hw'; subst hw''; obtain ⟨wd, hbd⟩ := u'; simp only [After.val_mk]))
        have ld := later hbd
        clear hbd
        go_upto_region 6 with fail
        (refine wp_region_after (by kernel_rfl) (by kernel_rfl) ?_
         repeat (any_goals (first | go_big_quiet_skip | (go_big_quiet_want; go_big_quiet_op; first | go_big_quiet_on | go_big_quiet_call (fail)) | quiet_step (fail) | (refine wpQuiet_step (fun K hK => ?_); go_simp; split <;> (refine hK _ ?_; clear hK K))))
         all_goals (refine wpQuiet_nil ?_; intro _ hw'; obtain ⟨u', hw''⟩ := hw'; subst hw''; obtain ⟨wd, hbd⟩ := u'; simp only [After.val_mk]))
        have ld := later hbd
        go_upto_region 8 with fail
        refine wp_name ?_
        intro wz hwz
        have lz := later_name' hwz (inferInstance : Later w0 _)
        have hzb : w.heap.size < wz.heap.size := Nat.lt_of_lt_of_le (blk_lt (B0 w0).1) (lz w0).below.size
        have HZ := HL wz
        have hk0 : (0 : Int) ≤ (es.length : Int) := by omega
        have hkc : (es.length : Int) ≤ (c : Int) := by omega
        have hkl : (es.length : Int) ≤ (es.length : Int) := by omega
        have q0 := blk_cell (B0 wz).1 0
        have q1 := blk_cell (B0 wz).1 1
        simp at q0 q1
        clear hwz
        have htk : (es.take es.length).length = es.length := by rw [List.length_take]; omega
        have hdk : (es.drop es.length).length = es.length - es.length := by rw [List.length_drop]
        go_region_held3 (fun w' => w'.cell? ⟨w.heap.size, 0, none⟩ = some (.int .i64 e.machine) ∧ w'.cell? ⟨w.heap.size, 1, none⟩ = some (.int .i64 e.serial)) (first | go_keep)
          ((first
            | (have ho9 := ho2
               refine step_app (P := Try.prog) rfl (.tmp 44) (.tmp 47) (by rfl) TraceE.enc traceT _ _ ([] : List TraceE) (es.take es.length ++ [e]) (.slice A2 (es.length + 1) c2) (by rfl) (by rfl) (m := 0) (n := es.length + 1) rfl (by simp only [List.length_append, htk, List.length_singleton] <;> omega) (ho2.later _) SlAt.nil (by omega) (by simp [maxLen]; omega) (by first | (simp; done) | (simp; omega) | omega) ?_
               intro A3 c3 w3 ho3 hm3 hb3 hg3
               have l3 := later_base (W := wz) hb3
               have hz3 : wz.heap.size ≤ w3.heap.size := (l3 wz).below.size
               have p0 := blk_cell (B0 w3).1 0
               have p1 := blk_cell (B0 w3).1 1
               simp at p0 p1)
            | (refine step_app rfl (.tmp 41) (.tmp 43) (by rfl) TraceE.enc traceT _ _ [e] (es.take es.length) _ (by rfl) (by rfl) (m := 1) (n := es.length + 1) rfl (by rw [htk]) (ho1.later _) (blk_slAt TraceE.enc (fr := (0, 0)) (e := 26) (by first | (exact (by (simp only [heap_drew, heap_alloc_if, World.size_alloc]); (repeat (first | rw [if_pos rfl] | rw [if_neg (by omega)] | rw [if_pos (by omega)])); try rfl)) | (refine (hgh _ (by first | (simp; done) | (simp; omega) | omega) (by simp [Value.ownBlock] <;> omega)).trans (by (simp only [heap_drew, heap_alloc_if, World.size_alloc]); (repeat (first | rw [if_pos rfl] | rw [if_neg (by omega)] | rw [if_pos (by omega)])); try rfl))) [e] (by rfl)) (by omega) (by simp [maxLen]; omega) (by first | (simp; done) | (simp; omega) | omega) ?_
               intro A2 c2 w2 ho2 hm2 hb2 hg2
               have l2 := later_base (W := wz) hb2
               have hz2 : wz.heap.size ≤ w2.heap.size := (l2 wz).below.size
               have p0 := blk_cell (B0 w2).1 0
               have p1 := blk_cell (B0 w2).1 1
               simp at p0 p1)
            | (refine step_app rfl (.tmp 37) (.tmp 40) (by rfl) TraceE.enc traceT _ _ (es.take es.length) ([] : List TraceE) (.slice (some ⟨_, 0, none⟩) 0 0) (by rfl) (by rfl) htk (Nat.zero_add _) (Own.empty_blk (base := wz.heap.size) (by first | (simp; done) | (simp; omega) | omega) (by (simp only [heap_drew, heap_alloc_if, World.size_alloc]); (repeat (first | rw [if_pos rfl] | rw [if_neg (by omega)] | rw [if_pos (by omega)])); try rfl)) ((HL _).take _) (by omega) (by simp [maxLen]; omega) (by first | (simp; done) | (simp; omega) | omega) ?_
               intro A1 c1 w1 ho1 hm1 hb1 hg1
               obtain ⟨-, -, -, -, hgh⟩ := hg1
               have l1 := later_base (W := wz) hb1
               have hz1 : wz.heap.size ≤ w1.heap.size := (l1 wz).below.size
               have p0 := blk_cell (B0 w1).1 0
               have p1 := blk_cell (B0 w1).1 1
               simp at p0 p1)
            ))
        all_goals go_wp2_with fail
        all_goals go_ret
        all_goals exact PutPost.new Hp hpl rfl (Own.mono ho3 (by omega)) below_of
end Go.Proofs.Ytnjpmpelgigmjaa

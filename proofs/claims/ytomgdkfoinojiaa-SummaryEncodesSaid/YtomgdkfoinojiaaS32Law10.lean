/-
  Contracts of the functions of this seat that each theorem names: what a call returns, and that it writes nothing that was there before. The conditions stand in each theorem.
-/
import Derived.Test.YtomgdkfoinojiaaGrpM
import Derived.Test.YtomgdkfoinojiaaS32Dec
import Derived.Test.YtomgdkfoinojiaaS32RefEnc
import Derived.Test.YtomgdkfoinojiaaGrpT
import Derived.Test.YtomgdkfoinojiaaGrpV
import Derived.Test.YtomgdkfoinojiaaGrpO
set_option linter.unusedSimpArgs false
set_option linter.unusedVariables false
namespace Go.Proofs.Ytomgdkfoinojiaa
open Go.RowKit
attribute [local simp] heap_drew
set_option maxRecDepth 100000 in
set_option maxHeartbeats 16000000 in
theorem lawEncodes_any (ep : Int) (A : Option Addr) (c : Nat) (l : List SumE) (w : World) (H : SumsAt w A l) (hl : l.length ≤ 9223372036854775807) (hil : ∀ x ∈ l, x.inset.length ≤ 9223372036854775807) (hep : ep < 9223372036854775808) (hr : ∀ x ∈ l, x.con.Rng) :
    Calls Try.prog 10 #[.agg #[.int .i64 ep, .slice A l.length c]] w fun r w' => r = .returned (.bool true) ∧ Below w.heap.size w w' := by
  have HL := H.later
  obtain ⟨E, hE⟩ : ∃ E : List Int, E = if validS ep (l.map SumE.con) then encS ep (l.map SumE.con) else [] := ⟨_, rfl⟩
  have HE : ∀ u [Later w u], Calls Try.prog 29 #[.agg #[.int .i64 ep, .slice A l.length c]] u (EncP E u) := fun u i => by have := encode_any ep A c l u (HL u) hl hil hep hr; rw [← hE] at this; exact this
  have HRE : ∀ u [Later w u], Calls Try.prog 31 #[.agg #[.int .i64 ep, .slice A l.length c]] u (EncP E u) := fun u i => by have := refEncode_any ep A c l u (HL u) hl hil hep hr; rw [← hE] at this; exact this
  have HV : ∀ u [Later w u], Calls Try.prog 22 #[.agg #[.int .i64 ep, .slice A l.length c]] u fun r w' => r = .returned (.bool (validS ep (l.map SumE.con))) ∧ Below u.heap.size u w' := fun u i => valid_any ep A c l u (HL u) hl hil
  have HW : ∀ u [Later w u], Calls Try.prog 30 #[.agg #[.int .i64 ep, .slice A l.length c]] u fun r w' => r = .returned (.bool (validS ep (l.map SumE.con))) ∧ Below u.heap.size u w' := fun u i => refValid_any ep A c l u (HL u) hl hil
  have hrc : ∀ x ∈ l.map SumE.con, x.Rng := fun x hx => by obtain ⟨y, hy, rfl⟩ := List.mem_map.1 hx; exact hr y hy
  have hEb : Bytes E ∧ E.length ≤ 100000000 := by
    rw [hE]
    split
    · rename_i h; exact ⟨encS_by h hep hrc, encS_len h hep hrc⟩
    · exact ⟨(fun x hx => by cases hx), by simp⟩
  have hEd : decS E = if validS ep (l.map SumE.con) then (ep, l.map SumE.con, 0) else (0, [], 11) := by
    rw [hE]
    split
    · rename_i h; exact dec_enc h hep hrc
    · exact decS_nil
  have hE0 : validS ep (l.map SumE.con) = false → E = [] := fun h => by rw [hE, h]; rfl
  have hvi : validS ep (l.map SumE.con) = true → l.length ≤ 1024 ∧ ∀ x ∈ l, x.inset.length ≤ 1024 := fun h => by
    obtain ⟨_, h1, _, h2⟩ := encS_rng h hep hrc
    rw [List.length_map] at h1
    exact ⟨h1, fun x hx => h2 x.con (List.mem_map_of_mem hx)⟩
  obtain ⟨V, hV⟩ : ∃ V, V = validS ep (l.map SumE.con) := ⟨_, rfl⟩
  rw [← hV] at HV HW hEd hE0 hvi
  have HEb := hide hEb
  have HEd := hide hEd
  have HE0 := hide hE0
  have Hvi := hide hvi
  clear hE hV hEb hEd hE0 hvi
  go_enter Try.func10, Try.ntmps10
  go_upto_region 1 with fail
  refine wp_name ?_
  intro w0 hw0
  obtain ⟨B0, l0⟩ := box1 hw0
  clear hw0
  have l00 : Later w0 w0 := Later.refl
  go_wp2_with fail
  go_loopw [3, 15] (fun nv iv wr => ∃ (n : Int) (k : Nat), k ≤ l.length ∧ nv = .int .i64 n ∧ iv = .int .i64 k ∧ Below w0.heap.size w0 wr) (fun _ iv _ => l.length - (intOf iv).toNat)
  case atStart => exact ⟨_, 0, by omega, rfl, rfl, Below.refl _ _⟩
  case round =>
    obtain ⟨n, k, hk, rfl, rfl, hbr⟩ := hrel
    have lr := later hbr
    have lrr : Later wr wr := Later.refl
    by_cases hlt : k < l.length
    · have hki : (k : Int) < (l.length : Int) := by omega
      obtain ⟨b1, o1, x, rfl, hx, C1, F1, hx1, hx2⟩ := (HL wr).get hlt
      go_upto_region 5 with fail
      refine wp_name ?_
      intro w4 hw4
      obtain ⟨B5, l4⟩ := box1 hw4
      clear hw4
      have l44 : Later w4 w4 := Later.refl
      go_wp2_with fail
      go_roundw
      case rel => exact ⟨_, k + 1, by omega, rfl, by go_num, below_of⟩
      case measure => simp [intOf]; omega
    · have hkk : k = l.length := by omega
      subst hkk
      by_cases hn : 100 < n
      · go_wp2_with (go_at_call 15; refine (awake_any _).mono ?_; rintro r w9 ⟨rfl, hb9⟩; have l9 := later hb9)
        go_ret
        exact ⟨rfl, below_of⟩
      go_upto_region 10 with (go_at_call 29; refine (HE _).mono ?_; rintro r w2 ⟨q, A1, c1, hq, rfl, hs1, hb2⟩; have l2 := later hb2)
      have l22 : Later w2 w2 := Later.refl
      have HQ := hide hs1.later
      have HC : ∀ u [Later w2 u], (convert 71 9 (.slice A1 q.length c1)).run Try.prog u = .ok (.string (strB q)) u := fun u i => conv_bytes A1 c1 q u (HQ.out u)
      clear HE hs1
      refine wp_region_held_drew (S := fun w' => ∀ b [Later b w2], Later b w') (by kernel_rfl) (fun b _ => inferInstance) (fun hHeld => ?_)
      refine wpAnyH_take (i := 0) (oi := _) (v := ?_) rfl (by kernel_rfl) (by kernel_rfl) (by kernel_rfl) (fun _ _ _ h => h) (Or.inl ⟨by rfl, ?_⟩) (by assumption) ?_
      rotate_left 1
      · (intro wy hSw; (try dsimp only at hSw); go_simp; try with_reducible rfl)
      (try simp only [Act.put])
      refine wpAnyH_take (i := 2) (oi := _) (v := ?_) rfl (by kernel_rfl) (by kernel_rfl) (by kernel_rfl) (fun _ _ _ h => h) (Or.inl ⟨by rfl, ?_⟩) (by assumption) ?_
      rotate_left 1
      · (intro wy hSw; (try dsimp only at hSw); go_simp; try with_reducible rfl)
      (try simp only [Act.put])
      refine wpAnyH_ready (rs := [1]) (by kernel_rfl) (by simp) ?_
      refine AllReadyH.cons (o := _) rfl (fun K9 hK9 => ?_) AllReadyH.nil
      go_simp
      refine (HV _).mono ?_
      rintro r w3 ⟨rfl, hb3⟩
      have l3 := later hb3
      have l33 : Later w3 w3 := Later.refl
      (try dsimp only)
      refine hK9.out _ _ (by intro b _; infer_instance) (fun hHeld => ?_)
      clear hK9 K9
      (try simp only [Act.put])
      refine wpAnyH_ready (rs := [3]) (by kernel_rfl) (by simp) ?_
      refine AllReadyH.cons (o := _) rfl (fun K9 hK9 => ?_) AllReadyH.nil
      go_simp
      refine (HW _).mono ?_
      rintro r w5 ⟨rfl, hb5⟩
      have l5 := later hb5
      have l55 : Later w5 w5 := Later.refl
      (try dsimp only)
      refine hK9.out _ _ (by intro b _; infer_instance) (fun hHeld => ?_)
      clear hK9 K9
      (try simp only [Act.put])
      refine wpAnyH_take (i := 4) (oi := _) (v := ?_) rfl (by kernel_rfl) (by kernel_rfl) (by kernel_rfl) (fun _ _ _ h => h) (Or.inl ⟨by rfl, ?_⟩) (by assumption) ?_
      rotate_left 1
      · (intro wy hSw; (try dsimp only at hSw); go_simp; try with_reducible rfl)
      (try simp only [Act.put])
      refine wpAnyH_take (i := 5) (oi := _) (v := ?_) rfl (by kernel_rfl) (by kernel_rfl) (by kernel_rfl) (fun _ _ _ h => h) (Or.inl ⟨by rfl, ?_⟩) (by assumption) ?_
      rotate_left 1
      · (intro wy hSw; (try dsimp only at hSw); go_simp; try with_reducible rfl)
      (try simp only [Act.put])
      refine wpAnyH_take (i := 6) (oi := _) (v := ?_) rfl (by kernel_rfl) (by kernel_rfl) (by kernel_rfl) (fun _ _ _ h => h) (Or.inl ⟨by rfl, ?_⟩) (by assumption) ?_
      rotate_left 1
      · (intro wy hSw; (try dsimp only at hSw); go_simp; try with_reducible rfl)
      (try simp only [Act.put])
      refine wpAnyH_take (i := 7) (oi := _) (v := ?_) rfl (by kernel_rfl) (by kernel_rfl) (by kernel_rfl) (fun _ _ _ h => h) (Or.inl ⟨by rfl, ?_⟩) (by assumption) ?_
      rotate_left 1
      · (intro wy hSw; (try dsimp only at hSw); go_simp; try with_reducible rfl)
      (try simp only [Act.put])
      refine wpAnyH_take (i := 8) (oi := _) (v := ?_) rfl (by kernel_rfl) (by kernel_rfl) (by kernel_rfl) (fun _ _ _ h => h) (Or.inl ⟨by rfl, ?_⟩) (by assumption) ?_
      rotate_left 1
      · (intro wy hSw; (try dsimp only at hSw); go_simp; try with_reducible rfl)
      (try simp only [Act.put])
      refine wpAnyH_ready (rs := [9]) (by kernel_rfl) (by simp) ?_
      refine AllReadyH.cons (o := _) rfl (fun K9 hK9 => ?_) AllReadyH.nil
      go_simp
      refine (HRE _).mono ?_
      rintro r w6 ⟨q6, A6, c6, hq6, rfl, hs6, hb6⟩
      have l6 := later hb6
      have l66 : Later w6 w6 := Later.refl
      have HC6 : ∀ u [Later w6 u], (convert 71 9 (.slice A6 q6.length c6)).run Try.prog u = .ok (.string (strB q)) u := fun u i => conv_to A6 c6 q6 q E u (hs6.below i.below) hq6 hq
      (try dsimp only)
      refine hK9.out _ _ (by intro b _; infer_instance) (fun hHeld => ?_)
      clear hK9 K9
      (try simp only [Act.put])
      refine wpAnyH_ready (rs := [10]) (by kernel_rfl) (by simp) ?_
      refine AllReadyH.cons (o := _) rfl (fun K9 hK9 => ?_) AllReadyH.nil
      go_simp
      refine hK9.out _ _ (by intro b _; infer_instance) (fun hHeld => ?_)
      clear hK9 K9
      (try simp only [Act.put])
      refine wpAnyH_take (i := 11) (oi := _) (v := ?_) rfl (by kernel_rfl) (by kernel_rfl) (by kernel_rfl) (fun _ _ _ h => h) (Or.inl ⟨by rfl, ?_⟩) (by assumption) ?_
      rotate_left 1
      · (intro wy hSw; (try dsimp only at hSw); go_simp; try with_reducible rfl)
      (try simp only [Act.put])
      refine wpAnyH_ready (rs := [12]) (by kernel_rfl) (by simp) ?_
      refine AllReadyH.cons (o := _) rfl (fun K9 hK9 => ?_) AllReadyH.nil
      go_simp
      refine hK9.out _ _ (by intro b _; infer_instance) (fun hHeld => ?_)
      clear hK9 K9
      (try simp only [Act.put])
      refine wpAnyH_done (by kernel_rfl) ?_ _
      have HD : ∀ u [Later w2 u], Calls Try.prog 27 #[.slice A1 q.length c1] u (SDecPost q u) := fun u i => sdecode_any A1 c1 q u (HQ.out u) (by rw [hq.out]; have := HEb.out.2; omega) (by rw [hq.out]; exact HEb.out.1)
      go_upto_region 13 with (go_at_call 27; refine (HD _).mono ?_; rintro r w7 ⟨ep', q7, A7, c7, e, hd7, rfl, hs7, hb7⟩; have l7 := later hb7)
      have HS7 := hs7.later
      refine wp_name ?_
      intro w8 hw8
      obtain ⟨B8, l8⟩ := box1 hw8
      clear hw8
      have l88 : Later w8 w8 := Later.refl
      have hed := HEd.out
      rw [← hq.out, hd7.out] at hed
      cases V
      · rw [if_neg (by decide)] at hed
        obtain ⟨h1, h2⟩ := Prod.mk.inj hed
        obtain ⟨h2, h3⟩ := Prod.mk.inj h2
        subst h3
        have hq0 : q.length = 0 := by rw [hq.out, HE0.out rfl]; rfl
        clear hed h1 h2 hd7
        rw [hq0]
        go_upto_region 14 with (go_at_call 30; refine (HW _).mono ?_; rintro r w9 ⟨rfl, hb9⟩; have l9 := later hb9)
        go_wp2_with (go_at_call 15; refine (awake_any _).mono ?_; rintro r w21 ⟨rfl, hb21⟩; have l21 := later hb21)
        go_ret
        exact ⟨rfl, below_of⟩
      · rw [if_pos rfl] at hed
        obtain ⟨h1, h2⟩ := Prod.mk.inj hed
        obtain ⟨h2, h3⟩ := Prod.mk.inj h2
        have Hm := hide h2
        subst h3 h1
        have hvi := Hvi.out rfl
        have hb7l : q7.length ≤ 1024 := by have := congrArg List.length Hm.out; rw [List.length_map, List.length_map] at this; rw [this]; exact hvi.1
        have hb7i : ∀ x ∈ q7, x.inset.length ≤ 1024 := fun x hx => by
          have : x.con ∈ l.map SumE.con := by rw [← Hm.out]; exact List.mem_map_of_mem hx
          obtain ⟨y, hy, hyx⟩ := List.mem_map.1 this
          have h5 := hvi.2 y hy
          have h6 : y.con.inset = x.con.inset := by rw [hyx]
          have h7 : y.inset = x.inset := h6
          rw [← h7]; exact h5
        have HF : ∀ u [Later w8 u], Calls Try.prog 12 #[.agg #[.int .i64 ep', .slice A l.length c], .agg #[.int .i64 ep', .slice A7 q7.length c7]] u fun r w' => r = .returned (.bool true) ∧ Below u.heap.size u w' := fun u i => by
          haveI : Later w u := Later.trans (inferInstance : Later w w8) i
          haveI : Later w7 u := Later.trans (inferInstance : Later w7 w8) i
          have := same32_any ep' ep' A A7 c c7 l q7 u (HL u) (HS7 u) (by omega) (by omega) (fun x hx => Nat.le_trans (hvi.2 x hx) (by omega)) (fun x hx => Nat.le_trans (hb7i x hx) (by omega))
          rwa [decide_eq_true (show ep' = ep' ∧ l.map SumE.con = q7.map SumE.con from ⟨rfl, Hm.out.symm⟩)] at this
        have Hvv := hide hvi
        clear hed h2 hd7 hvi hb7l hb7i
        go_upto_region 15 with (go_at_call 30; refine (HW _).mono ?_; rintro r w9 ⟨rfl, hb9⟩; have l9 := later hb9)
        go_wp2_with (first | (go_at_call 12; refine (HF _).mono ?_; rintro r w20 ⟨rfl, hb20⟩; have l20 := later hb20) | (go_at_call 15; refine (awake_any _).mono ?_; rintro r w21 ⟨rfl, hb21⟩; have l21 := later hb21))
        go_ret
        exact ⟨rfl, below_of⟩
end Go.Proofs.Ytomgdkfoinojiaa

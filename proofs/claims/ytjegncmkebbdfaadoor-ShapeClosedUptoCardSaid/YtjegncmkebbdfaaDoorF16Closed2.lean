/-
  Contracts of the functions of this seat that each theorem names: what a call returns, and that it writes nothing that was there before. The conditions stand in each theorem.
-/
import Derived.Test.YtjegncmkebbdfaaDoorF16Closed
set_option linter.unusedSimpArgs false
set_option linter.unusedVariables false
namespace Go.Proofs.YtjegncmkebbdfaaDoor
open Go.RowKit
attribute [local go_sem ↓] run_eql_id run_neq_id
attribute [local go_sem] Instr.makeFunc
attribute [local simp] heap_drew
set_option maxRecDepth 100000 in
set_option maxHeartbeats 16000000 in
theorem lawClosed_any (A : Option Addr) (c : Nat) (l : List NodeE) (RA : Option Addr) (rc : Nat) (roots : List IDE) (w : World) (h : Tab10 w) (H : NodesAt w A l) (hR : SlAt IDE.cells 2 w RA roots) (ht : cntG l ≤ 1000000000) (hrl : roots.length ≤ 1000000000) :
    Calls Tryd.prog 3 #[.agg #[.slice A l.length c], .slice RA roots.length rc] w fun r w' => r = .returned (.bool true) ∧ Below w.heap.size w w' := by
  have HN := H.later
  have HT := h.later
  have HA : ∀ u [Later w u], Calls Tryd.prog 10 #[] u fun r w' => r = .returned (.bool true) ∧ Below u.heap.size u w' := fun u i => awake_any u (HT u)
  have HF : ∀ u [Later w u], Calls Tryd.prog 8 #[.slice (some ⟨u.heap.size, 0, none⟩) 1 1] (u.alloc (.cells #[.slice A l.length c] 24 (0, 0))) fun r w' => r = .returned (.bool (decide (cntG l ≤ 200))) ∧ Below (u.alloc (.cells #[.slice A l.length c] 24 (0, 0))).heap.size (u.alloc (.cells #[.slice A l.length c] 24 (0, 0))) w' := fun u i => few_one A c l _ _ (heap_alloc_new _ _) (HN _) ht
  cases hfw : decide (cntG l ≤ 200) with
  | false =>
    simp only [hfw] at HF
    clear hfw
    go_enter Tryd.func3, Tryd.ntmps3
    go_upto_region 1 with fail
    refine wp_name ?_
    intro w1 hw1
    obtain ⟨B0, l1⟩ := box1 hw1
    clear hw1
    go_wp2_with (first | (go_at_call 8; refine (HF _).mono ?_; rintro r w2 ⟨rfl, hb2⟩; have l2 := later hb2) | (go_at_call 10; refine (HA _).mono ?_; rintro r w3 ⟨rfl, hb3⟩; have l3 := later hb3))
    go_ret
    exact ⟨rfl, below_of⟩
  | true =>
    simp only [hfw] at HF
    obtain ⟨hl2, hf2⟩ := cnt_bounds (of_decide_eq_true hfw)
    clear hfw
    by_cases hr20 : 20 < roots.length
    · have hri : (20 : Int) < (roots.length : Int) := by omega
      go_enter Tryd.func3, Tryd.ntmps3
      go_upto_region 1 with fail
      refine wp_name ?_
      intro w1 hw1
      obtain ⟨B0, l1⟩ := box1 hw1
      clear hw1
      go_wp2_with (first | (go_at_call 8; refine (HF _).mono ?_; rintro r w2 ⟨rfl, hb2⟩; have l2 := later hb2) | (go_at_call 10; refine (HA _).mono ?_; rintro r w3 ⟨rfl, hb3⟩; have l3 := later hb3))
      go_ret
      exact ⟨rfl, below_of⟩
    have hri : ¬ (20 : Int) < (roots.length : Int) := by omega
    have HV : ∀ u [Later w u], Calls Tryd.prog 9 #[.agg #[.slice A l.length c]] u fun r w' => r = .returned (.bool (valid16B (conL l))) ∧ Below u.heap.size u w' := fun u i => valid16_any A c l u (HN u) (by omega) (fun n hn => by have := hf2 n hn; omega)
    cases hv : valid16B (conL l) with
    | false =>
      simp only [hv] at HV
      go_enter Tryd.func3, Tryd.ntmps3
      go_upto_region 1 with fail
      refine wp_name ?_
      intro w1 hw1
      obtain ⟨B0, l1⟩ := box1 hw1
      clear hw1
      go_wp2_with (first | (go_at_call 8; refine (HF _).mono ?_; rintro r w2 ⟨rfl, hb2⟩; have l2 := later hb2) | (go_at_call 10; refine (HA _).mono ?_; rintro r w3 ⟨rfl, hb3⟩; have l3 := later hb3) | (go_at_call 9; refine (HV _).mono ?_; rintro r w4 ⟨rfl, hb4⟩; have l4 := later hb4))
      go_ret
      exact ⟨rfl, below_of⟩
    | true =>
      simp only [hv] at HV
      have HQ : ∀ u [Later w u], Calls Tryd.prog 11 #[.agg #[.slice A l.length c], .slice RA roots.length rc] u (ReachPost (conL l) roots u) := fun u i => reach_any A c l RA rc roots u (HN u) (hR.below i.below) (by omega) (fun n hn => by have := hf2 n hn; omega) (by omega)
      have HI : ∀ (x : IDE) (u : World) [Later w u], Calls Tryd.prog 14 #[.agg #[.slice A l.length c], x.v] u (Find16Post l x u) := fun x u i => find16_any A c l x u (HN u) (by omega)
      have HHr : ∀ (x : IDE) (u : World) [Later w u], Calls Tryd.prog 13 #[.slice RA roots.length rc, x.v] u fun r w' => r = .returned (.bool (decide (x ∈ roots))) ∧ Below u.heap.size u w' := fun x u i => hasID_any RA rc roots x u (hR.below i.below) (by omega)
      go_enter Tryd.func3, Tryd.ntmps3
      go_upto_region 1 with fail
      refine wp_name ?_
      intro w1 hw1
      obtain ⟨B0, l1⟩ := box1 hw1
      clear hw1
      go_upto_region 3 with (first | (go_at_call 8; refine (HF _).mono ?_; rintro r w2 ⟨rfl, hb2⟩; have l2 := later hb2) | (go_at_call 9; refine (HV _).mono ?_; rintro r w4 ⟨rfl, hb4⟩; have l4 := later hb4))
      go_upto_region 4 with (go_at_call 11; refine (HQ _).mono ?_; rintro r w5 ⟨q, QA, QC, hq0, rfl, hoq, hb5⟩; have l5 := later hb5)
      refine wp_name ?_
      intro w6 hw6
      have h5 : w6.heap[w5.heap.size]? = some (.cells #[.slice QA q.length QC] 25 (0, 0)) := (by rw [← hw6]; simp only [heap_alloc_if, World.size_alloc]; repeat (first | rw [if_pos trivial] | rw [if_neg (by omega)] | rw [if_pos (by omega)]); try rfl)
      have hb6 : Below w5.heap.size w5 w6 := by rw [← hw6]; exact (by repeat (first | with_reducible exact Below.refl _ _ | (with_reducible refine Below.drew ?_) | (with_reducible refine below_drewN ?_ _) | (with_reducible refine Below.alloc ?_ ?_ _; rotate_left; (first | omega | (simp <;> omega))) | (with_reducible refine Below.setCell ?_ ?_ _; rotate_left; (first | omega | (simp <;> omega)))))
      clear hw6
      have l6 := later hb6
      have l66 : Later w6 w6 := Later.refl
      have hq := hide hq0
      have hql : q.length ≤ 200 := by
        have h1 := reach_len hq0.1.nodup fun x hx => firstN_ids.1 ((hq0.2 x).1 hx).node
        unfold conL at h1
        rw [List.length_map] at h1
        omega
      have HQS : ∀ u [Later w6 u], SlAt IDE.cells 2 u QA q := fun u i => by haveI := (l6 w5).trans i; exact (((hoq.later u).at_ IDE.enc).2).2
      have HIN : ∀ (x : IDE) (u : World) [Later w6 u], Calls Tryd.prog 12 #[x.v, .pointer (some ⟨w5.heap.size, 0, none⟩)] u fun r w' => r = .returned (.bool (decide (x ∈ q))) ∧ Below u.heap.size u w' := fun x u i => inQ_any x q QA QC _ u (blk_below h5 i.below) (HQS u) (by omega)
      have X5 := boxed h5
      have HR6 : ∀ u [Later w6 u], SlAt IDE.cells 2 u RA roots := fun u i => by haveI := ((inferInstance : Later w w6)).trans i; exact hR.below ((inferInstance : Later w u)).below
      have HI6 : ∀ (x : IDE) (u : World) [Later w6 u], Calls Tryd.prog 14 #[.agg #[.slice A l.length c], x.v] u (Find16Post l x u) := fun x u i => by haveI := ((inferInstance : Later w w6)).trans i; exact HI x u
      have HH6 : ∀ (x : IDE) (u : World) [Later w6 u], Calls Tryd.prog 13 #[.slice RA roots.length rc, x.v] u fun r w' => r = .returned (.bool (decide (x ∈ roots))) ∧ Below u.heap.size u w' := fun x u i => by haveI := ((inferInstance : Later w w6)).trans i; exact HHr x u
      have HN6 : ∀ u [Later w6 u], NodesAt u A l := fun u i => by haveI := ((inferInstance : Later w w6)).trans i; exact HN u
      clear hq0 hoq h5 HF HV HQ HI HHr HN H hR
      go_wp2_with fail
      go_loopw [45] (fun kv wr => ∃ k : Nat, k ≤ roots.length ∧ kv = .int .i64 k ∧ Below w6.heap.size w6 wr) (fun kv _ => roots.length - (intOf kv).toNat)
      case atStart => exact ⟨0, by omega, rfl, Below.refl _ _⟩
      case round =>
        obtain ⟨k, hk, rfl, hbr⟩ := hrel
        have lr := later hbr
        have lrr : Later wr wr := Later.refl
        by_cases hlt : k < roots.length
        · have hki : (k : Int) < (roots.length : Int) := by omega
          obtain ⟨x, hx⟩ : ∃ x, roots[k]? = some x := ⟨_, List.getElem?_eq_getElem hlt⟩
          obtain ⟨bo, oo, y, rfl, hy, C1⟩ := IDE.get (HR6 wr) hlt
          rw [hx] at hy
          injection hy with hy
          subst hy
          have HFx := fun (u : World) (i : Later w6 u) => HI6 x u
          have HCx := fun (u : World) (i : Later w6 u) => HIN x u
          unfold Find16Post at HFx
          have hin := in_root hq.out (List.mem_of_getElem? hx)
          rw [hin] at HCx
          generalize (firstE l x).getD zeroN = m at HFx
          generalize (firstE l x).isSome = s at HFx HCx
          have hss : (s != s) = false := by cases s <;> rfl
          clear hin hx
          obtain ⟨x1, x2⟩ := x
          dsimp only [IDE.v] at HFx HCx C1
          go_upto_region 8 with fail
          refine wp_name ?_
          intro w7 hw7
          obtain ⟨B7, l7⟩ := box1 hw7
          have l77 : Later w7 w7 := Later.refl
          clear hw7
          go_wp2_with (first | (go_at_call 14; refine (HFx _ inferInstance).mono ?_; rintro r w8 ⟨rfl, hb8⟩; have l8 := later hb8) | (go_at_call 12; refine (HCx _ inferInstance).mono ?_; rintro r w9 ⟨rfl, hb9⟩; have l9 := later hb9))
          go_roundw
          case rel => exact ⟨k + 1, by omega, by go_num, below_of⟩
          case measure => simp [intOf]; omega
        · have hkk : k = roots.length := by omega
          subst hkk
          obtain ⟨wE, rfl⟩ : ∃ z, z = wr := ⟨_, rfl⟩
          have l6E : Later w6 wE := by infer_instance
          have lEE : Later wE wE := Later.refl
          have lwE : Later w wE := by infer_instance
          go_wp2_with fail
          go_loopw [63] (fun kv wr => ∃ k : Nat, k ≤ q.length ∧ kv = .int .i64 k ∧ Below wE.heap.size wE wr) (fun kv _ => q.length - (intOf kv).toNat)
          case atStart => exact ⟨0, by omega, rfl, Below.refl _ _⟩
          case round =>
            obtain ⟨k, hk, rfl, hbr2⟩ := hrel
            have lk := later hbr2
            obtain ⟨wK, rfl⟩ : ∃ z, z = wr := ⟨_, rfl⟩
            have lKK : Later wK wK := Later.refl
            have l6K : Later w6 wK := by infer_instance
            by_cases hlt2 : k < q.length
            · have hki2 : (k : Int) < (q.length : Int) := by omega
              obtain ⟨x, hx⟩ : ∃ x, q[k]? = some x := ⟨_, List.getElem?_eq_getElem hlt2⟩
              obtain ⟨bo, oo, y, rfl, hy, C1⟩ := IDE.get (HQS wK) hlt2
              rw [hx] at hy
              injection hy with hy
              subst hy
              have hxq := List.mem_of_getElem? hx
              obtain ⟨n, hn⟩ := in_node hq.out hxq
              have hnl := (firstE_some hn).1
              have HFx := fun (u : World) (i : Later w6 u) => HI6 x u
              unfold Find16Post at HFx
              rw [hn] at HFx
              simp only [Option.getD_some, Option.isSome_some] at HFx
              have HHx := fun (u : World) (i : Later w6 u) => HH6 x u
              obtain ⟨b0, hb0⟩ : ∃ b, b = decide (x ∈ roots) := ⟨_, rfl⟩
              rw [← hb0] at HHx
              have Hb0 := hide hb0
              have Hheld := hide (held_true hq.out hxq)
              have Href := hide (fun (v : ValE) => in_ref (v := v) hq.out hxq hn)
              have HNf : ∀ u [Later w6 u], SlAt ValE.cells 4 u n.A n.fields := fun u i => (HN6 u).f n hnl
              have hnf2 := hf2 n hnl
              clear hb0 hx hn hnl hxq
              obtain ⟨n1, n2, nk, nc, nA, ncap, nf⟩ := n
              dsimp only [NodeE.v] at HFx HNf hnf2
              have Href2 := hide (fun (v : ValE) => Href.out v)
              obtain ⟨xx, hxx⟩ : ∃ z, z = x := ⟨_, rfl⟩
              rw [← hxx] at Hheld Hb0
              have Hxx := hide hxx
              clear hxx Href
              obtain ⟨x1, x2⟩ := x
              dsimp only [IDE.v] at HFx HHx C1
              go_upto_region 15 with fail
              refine wp_name ?_
              intro w7 hw7
              obtain ⟨B7, l7⟩ := box1 hw7
              have l77 : Later w7 w7 := Later.refl
              clear hw7
              go_upto_region 18 with (go_at_call 14; refine (HFx _ inferInstance).mono ?_; rintro r w8 ⟨rfl, hb8⟩; have l8 := later hb8)
              refine wp_name ?_
              intro w9 hw9
              obtain ⟨B9, l9⟩ := box1 hw9
              have l99 : Later w9 w9 := Later.refl
              clear hw9
              go_upto_region 19 with (go_at_call 13; refine (HHx _ inferInstance).mono ?_; rintro r w10 ⟨rfl, hb10⟩; have l10 := later hb10)
              have l1010 : Later w10 w10 := Later.refl
              have l610 : Later w6 w10 := by infer_instance
              go_wp2_with fail
              go_loopw [15, 81] (fun hv jv wr => ∃ (j : Nat) (hb : Bool), j ≤ l.length ∧ hv = .bool hb ∧ jv = .int .i64 j ∧ Hid (hb = (b0 || heldB q xx (l.take j))) ∧ Below w10.heap.size w10 wr) (fun _ jv _ => l.length - (intOf jv).toNat)
              case atStart => exact ⟨0, b0, by omega, rfl, rfl, hide (by simp [heldB]), Below.refl _ _⟩
              case round =>
                obtain ⟨j, hb, hj, rfl, rfl, hh, hbr3⟩ := hrel
                have lj := later hbr3
                obtain ⟨wJ, rfl⟩ : ∃ z, z = wr := ⟨_, rfl⟩
                have lJJ : Later wJ wJ := Later.refl
                have l6J : Later w6 wJ := by infer_instance
                by_cases hlt3 : j < l.length
                · have hji : (j : Int) < (l.length : Int) := by omega
                  obtain ⟨b1, o1, y, rfl, hy, D1, F1, -, -⟩ := (HN6 wJ).get hlt3
                  have hyf := hf2 y (List.mem_of_getElem? hy)
                  have hTk := hide (heldB_take (q := q) (x := xx) hy)
                  have HCy := fun (u : World) (i : Later w6 u) => HIN y.id u
                  generalize y.A = yA at D1 F1
                  obtain ⟨c5, hc5⟩ : ∃ c, c = decide (y.id ∈ q) := ⟨_, rfl⟩
                  rw [← hc5] at HCy
                  have Hc5 := hide hc5
                  clear hc5 hy
                  dsimp only [IDE.v, NodeE.id] at HCy
                  go_upto_region 22 with fail
                  refine wp_name ?_
                  intro w11 hw11
                  obtain ⟨B11, l11⟩ := box1 hw11
                  have l1111 : Later w11 w11 := Later.refl
                  clear hw11
                  have l611 : Later w6 w11 := by infer_instance
                  have F11 : ∀ u [Later w11 u], SlAt ValE.cells 4 u yA y.fields := fun u i => by haveI := ((inferInstance : Later wJ w11)).trans i; exact F1 u
                  clear F1
                  go_wp2_with fail
                  go_loopw [15, 88] (fun hv iv wr => ∃ (i : Nat) (hb4 : Bool), i ≤ y.fields.length ∧ hv = .bool hb4 ∧ iv = .int .i64 i ∧ Hid (hb4 = (hb || (y.fields.take i).any (byB q xx y))) ∧ Below w11.heap.size w11 wr) (fun _ iv _ => y.fields.length - (intOf iv).toNat)
                  case atStart => exact ⟨0, hb, by omega, rfl, rfl, hide (by simp), Below.refl _ _⟩
                  case round =>
                    obtain ⟨i, hb4, hi, rfl, rfl, hh4, hbr4⟩ := hrel
                    have li := later hbr4
                    obtain ⟨wI, rfl⟩ : ∃ z, z = wr := ⟨_, rfl⟩
                    have lII : Later wI wI := Later.refl
                    have l6I : Later w6 wI := by infer_instance
                    by_cases hlt4 : i < y.fields.length
                    · have hii : (i : Int) < (y.fields.length : Int) := by omega
                      obtain ⟨b3, o3, v, rfl, hv, V1⟩ := ValE.get (F11 wI) hlt4
                      have hAny := hide (any_take (p := byB q xx y) hv)
                      clear hv
                      go_upto_region 25 with fail
                      refine wp_name ?_
                      intro w13 hw13
                      obtain ⟨B13, l13⟩ := box1 hw13
                      have l1313 : Later w13 w13 := Later.refl
                      clear hw13
                      have e1 : (!ideq y.iDMachine y.iDSerial x1 x2) = !decide (y.id = xx) := by rw [Hxx.out]; exact congrArg not (@ideq_iff y.id ⟨x1, x2⟩)
                      have e4 : ideq v.refMachine v.refSerial x1 x2 = decide (v.ref = xx) := by rw [Hxx.out]; exact @ideq_iff v.ref ⟨x1, x2⟩
                      have hby : byB q xx y v = ((((!ideq y.iDMachine y.iDSerial x1 x2) && (y.kind != 2)) && (v.kind == 2)) && ideq v.refMachine v.refSerial x1 x2 && c5) := by unfold byB; rw [e1, e4, Hc5.out]
                      clear e1 e4
                      cases hb4 with
                      | true =>
                        go_wp2_with (go_at_call 12; refine (HCy _ inferInstance).mono ?_; rintro r w14 ⟨rfl, hb14⟩; have l14 := later hb14)
                        go_roundw
                        case rel => exact ⟨i + 1, true, by omega, rfl, by go_num, hide (by rw [hAny.out, ← Bool.or_assoc, ← hh4.out]; rfl), below_of⟩
                        case measure => simp [intOf]; omega
                      | false =>
                        cases q1 : ideq y.iDMachine y.iDSerial x1 x2 with
                        | true =>
                          have hb5 := hide (show byB q xx y v = false by rw [hby, q1]; rfl)
                          clear hby
                          go_wp2_with (go_at_call 12; refine (HCy _ inferInstance).mono ?_; rintro r w14 ⟨rfl, hb14⟩; have l14 := later hb14)
                          go_roundw
                          case rel => exact ⟨i + 1, false, by omega, rfl, by go_num, hide (by rw [hAny.out, ← Bool.or_assoc, ← hh4.out]; simp [hb5.out]), below_of⟩
                          case measure => simp [intOf]; omega
                        | false =>
                          cases q2 : (y.kind != 2) with
                          | false =>
                            have hb5 := hide (show byB q xx y v = false by rw [hby, q1, q2]; rfl)
                            clear hby
                            go_wp2_with (go_at_call 12; refine (HCy _ inferInstance).mono ?_; rintro r w14 ⟨rfl, hb14⟩; have l14 := later hb14)
                            go_roundw
                            case rel => exact ⟨i + 1, false, by omega, rfl, by go_num, hide (by rw [hAny.out, ← Bool.or_assoc, ← hh4.out]; simp [hb5.out]), below_of⟩
                            case measure => simp [intOf]; omega
                          | true =>
                            cases q3 : (v.kind == 2) with
                            | false =>
                              have hb5 := hide (show byB q xx y v = false by rw [hby, q1, q2, q3]; rfl)
                              clear hby
                              go_wp2_with (go_at_call 12; refine (HCy _ inferInstance).mono ?_; rintro r w14 ⟨rfl, hb14⟩; have l14 := later hb14)
                              go_roundw
                              case rel => exact ⟨i + 1, false, by omega, rfl, by go_num, hide (by rw [hAny.out, ← Bool.or_assoc, ← hh4.out]; simp [hb5.out]), below_of⟩
                              case measure => simp [intOf]; omega
                            | true =>
                              cases q4 : ideq v.refMachine v.refSerial x1 x2 with
                              | false =>
                                have hb5 := hide (show byB q xx y v = false by rw [hby, q1, q2, q3, q4]; rfl)
                                clear hby
                                go_wp2_with (go_at_call 12; refine (HCy _ inferInstance).mono ?_; rintro r w14 ⟨rfl, hb14⟩; have l14 := later hb14)
                                go_roundw
                                case rel => exact ⟨i + 1, false, by omega, rfl, by go_num, hide (by rw [hAny.out, ← Bool.or_assoc, ← hh4.out]; simp [hb5.out]), below_of⟩
                                case measure => simp [intOf]; omega
                              | true =>
                                have hb5 := hide (show byB q xx y v = c5 by rw [hby, q1, q2, q3, q4]; rfl)
                                clear hby
                                go_wp2_with (go_at_call 12; refine (HCy _ inferInstance).mono ?_; rintro r w14 ⟨rfl, hb14⟩; have l14 := later hb14)
                                go_roundw
                                case rel => exact ⟨i + 1, c5, by omega, rfl, by go_num, hide (by rw [hAny.out, ← Bool.or_assoc, ← hh4.out]; simp [hb5.out]), below_of⟩
                                case measure => simp [intOf]; omega
                    · have hii : i = y.fields.length := by omega
                      subst hii
                      have he := hide (show hb4 = (b0 || heldB q xx (l.take (j + 1))) by rw [hh4.out, List.take_length, hh.out, hTk.out, Bool.or_assoc])
                      go_wp2_with fail
                      go_roundw
                      case rel => exact ⟨j + 1, hb4, by omega, rfl, by go_num, he, below_of⟩
                      case measure => simp [intOf]; omega
                · have hjj : j = l.length := by omega
                  subst hjj
                  obtain rfl : hb = true := by rw [hh.out, List.take_length, Hb0.out]; exact Hheld.out
                  have HNf2 : ∀ u [Later wJ u], SlAt ValE.cells 4 u nA nf := fun u i => by haveI := l6J.trans i; exact HNf u
                  clear hh
                  go_wp2_with fail
                  go_loopw [126] (fun iv wr => ∃ i : Nat, i ≤ nf.length ∧ iv = .int .i64 i ∧ Below wJ.heap.size wJ wr) (fun iv _ => nf.length - (intOf iv).toNat)
                  case atStart => exact ⟨0, by omega, rfl, Below.refl _ _⟩
                  case round =>
                    obtain ⟨i, hi, rfl, hbr5⟩ := hrel
                    have li := later hbr5
                    obtain ⟨wI, rfl⟩ : ∃ z, z = wr := ⟨_, rfl⟩
                    have lII : Later wI wI := Later.refl
                    have l6I : Later w6 wI := by infer_instance
                    by_cases hlt5 : i < nf.length
                    · have hii : (i : Int) < (nf.length : Int) := by omega
                      obtain ⟨b3, o3, v, rfl, hv, V1⟩ := ValE.get (HNf2 wI) hlt5
                      have hvm := List.mem_of_getElem? hv
                      have HFv := fun (u : World) (i : Later w6 u) => HI6 v.ref u
                      unfold Find16Post at HFv
                      generalize (firstE l v.ref).getD zeroN = m at HFv
                      have HCv := fun (u : World) (i : Later w6 u) => HIN v.ref u
                      have Hrv := hide (fun (h1 : nk ≠ 2) (h2 : v.kind = 2) => Href2.out v h1 hvm h2)
                      obtain ⟨s, hs⟩ : ∃ s, s = (firstE l v.ref).isSome := ⟨_, rfl⟩
                      rw [← hs] at HFv
                      have Hs := hide hs
                      obtain ⟨c6, hc6⟩ : ∃ c, c = decide (v.ref ∈ q) := ⟨_, rfl⟩
                      rw [← hc6] at HCv
                      have Hc6 := hide hc6
                      clear hs hv hvm hc6
                      dsimp only [IDE.v, ValE.ref] at HFv HCv
                      go_upto_region 31 with fail
                      refine wp_name ?_
                      intro w13 hw13
                      obtain ⟨B13, l13⟩ := box1 hw13
                      have l1313 : Later w13 w13 := Later.refl
                      clear hw13
                      cases q1 : (nk != 2) with
                      | false =>
                        go_wp2_with (go_at_call 14; refine (HFv _ inferInstance).mono ?_; rintro r w15 ⟨rfl, hb15⟩; have l15 := later hb15)
                        go_roundw
                        case rel => exact ⟨i + 1, by omega, by go_num, below_of⟩
                        case measure => simp [intOf]; omega
                      | true =>
                        cases q2 : (v.kind == 2) with
                        | false =>
                          go_wp2_with (go_at_call 14; refine (HFv _ inferInstance).mono ?_; rintro r w15 ⟨rfl, hb15⟩; have l15 := later hb15)
                          go_roundw
                          case rel => exact ⟨i + 1, by omega, by go_num, below_of⟩
                          case measure => simp [intOf]; omega
                        | true =>
                          have hvs : c6 = s := by rw [Hc6.out, Hs.out]; exact Hrv.out (by simpa using q1) (by simpa using q2)
                          rw [hvs] at HCv
                          have hss : (s != s) = false := by cases s <;> rfl
                          clear hvs Hs Hc6
                          go_wp2_with (first | (go_at_call 14; refine (HFv _ inferInstance).mono ?_; rintro r w15 ⟨rfl, hb15⟩; have l15 := later hb15) | (go_at_call 12; refine (HCv _ inferInstance).mono ?_; rintro r w16 ⟨rfl, hb16⟩; have l16 := later hb16))
                          go_roundw
                          case rel => exact ⟨i + 1, by omega, by go_num, below_of⟩
                          case measure => simp [intOf]; omega
                    · have hii : i = nf.length := by omega
                      subst hii
                      go_wp2_with fail
                      go_roundw
                      case rel => exact ⟨k + 1, by omega, by go_num, below_of⟩
                      case measure => simp [intOf]; omega
            · have hkk : k = q.length := by omega
              subst hkk
              go_wp2_with (go_at_call 10; refine (HA _).mono ?_; rintro r w3 ⟨rfl, hb3⟩; have l3 := later hb3)
              go_ret
              exact ⟨rfl, below_of⟩
end Go.Proofs.YtjegncmkebbdfaaDoor

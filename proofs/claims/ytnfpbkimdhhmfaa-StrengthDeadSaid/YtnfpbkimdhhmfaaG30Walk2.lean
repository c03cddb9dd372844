/-
  Contracts of the functions of this seat that each theorem names: what a call returns, and that it writes nothing that was there before. The conditions stand in each theorem.
-/
import Derived.Test.YtnfpbkimdhhmfaaG30Walk1
namespace Go.Proofs.Ytnfpbkimdhhmfaa
open Go.RowKit
attribute [local go_sem ↓] run_eql_id run_neq_id
attribute [local simp] heap_drew
set_option maxRecDepth 100000 in
set_option maxHeartbeats 8000000 in
theorem weakStub_any (A : Option Addr) (c : Nat) (l : List NodeE) (SA : Option Addr) (sc : Nat) (strong : List IDE) (WA : Option Addr) (wc : Nat) (weak : List IDE) (x : IDE) (w : World) (H : NodesAt w A l) (hS : SlAt IDE.cells 2 w SA strong) (hWk : SlAt IDE.cells 2 w WA weak) (hl : l.length ≤ 10000) (hf : ∀ n ∈ l, n.fields.length ≤ 10000) (hsl : strong.length ≤ 10000) (hwl : weak.length ≤ 10000) :
    Calls Try.prog 28 #[.agg #[.slice A l.length c], .slice SA strong.length sc, .slice WA weak.length wc, x.v] w fun r w' => r = .returned (.bool (weakP (conL l) strong weak x)) ∧ Below w.heap.size w w' := by
  have HL := H.later
  have HS : ∀ u [Later w u], SlAt IDE.cells 2 u SA strong := fun u i => hS.below i.below
  have HWk : ∀ u [Later w u], SlAt IDE.cells 2 u WA weak := fun u i => hWk.below i.below
  obtain ⟨V, hV⟩ : ∃ V, V = weakP (conL l) strong weak x := ⟨_, rfl⟩
  rw [← hV]
  have HV := hide hV
  clear hV
  have HF : ∀ u [Later w u], Calls Try.prog 19 #[.agg #[.slice A l.length c], x.v] u (Find16Post l x u) := fun u j => find16_any A c l x u (HL u) (by omega)
  have HH : ∀ u [Later w u], Calls Try.prog 18 #[.slice SA strong.length sc, x.v] u fun r w' => r = .returned (.bool (decide (x ∈ strong))) ∧ Below u.heap.size u w' := fun u j => has21_any SA sc strong x u (HS u) (by omega)
  have HK : ∀ u [Later w u], Calls Try.prog 18 #[.slice WA weak.length wc, x.v] u fun r w' => r = .returned (.bool (decide (x ∈ weak))) ∧ Below u.heap.size u w' := fun u j => has21_any WA wc weak x u (HWk u) (by omega)
  unfold Find16Post at HF
  go_enter Try.func28, Try.ntmps28
  go_upto_region 1 with fail
  refine wp_name ?_
  intro w0 hw0
  obtain ⟨B0, B1, l0⟩ := box2 hw0
  clear hw0
  cases hfx : firstE l x with
  | none =>
    simp only [hfx, Option.getD_none, Option.isSome_none, zeroN] at HF
    have hv := hide (show V = false by rw [HV.out]; unfold weakP isStubN; rw [firstE_N, hfx]; rfl)
    clear hfx
    go_wp2_with (go_at_call 19; refine (HF _).mono ?_; rintro r w1 ⟨rfl, hb1⟩; have l1 := later hb1)
    go_ret
    exact ⟨ret_bool hv.out.symm, below_of⟩
  | some n =>
    have hst := hide (show isStubN (conL l) x = (n.kind == 3) by unfold isStubN; rw [firstE_N, hfx]; rfl)
    simp only [hfx, Option.getD_some, Option.isSome_some] at HF
    clear hfx
    by_cases hk3 : n.kind = 3
    · by_cases hin : x ∈ strong
      · simp only [hin, decide_true] at HH
        have hv := hide (show V = false by rw [HV.out]; unfold weakP; simp [hin])
        go_wp2_with (first | (go_at_call 19; refine (HF _).mono ?_; rintro r w1 ⟨rfl, hb1⟩; have l1 := later hb1) | (go_at_call 18; refine (HH _).mono ?_; rintro r w2 ⟨rfl, hb2⟩; have l2 := later hb2))
        go_ret
        exact ⟨ret_bool hv.out.symm, below_of⟩
      · simp only [hin, decide_false] at HH
        have hv1 := hide (show weakP (conL l) strong weak x = (decide (x ∈ weak) || strong.any (weakRef (conL l) x)) by unfold weakP; rw [hst.out]; simp [hk3, hin])
        by_cases hiw : x ∈ weak
        · simp only [hiw, decide_true] at HK
          have hv := hide (show V = true by rw [HV.out, hv1.out]; simp [hiw])
          go_upto_region 4 with (first | (go_at_call 19; refine (HF _).mono ?_; rintro r w1 ⟨rfl, hb1⟩; have l1 := later hb1) | (go_at_call 18; refine (HH _).mono ?_; rintro r w2 ⟨rfl, hb2⟩; have l2 := later hb2))
          go_wp2_with (go_at_call 18; refine (HK _).mono ?_; rintro r w3 ⟨rfl, hb3⟩; have l3 := later hb3)
          go_ret
          exact ⟨ret_bool hv.out.symm, below_of⟩
        · simp only [hiw, decide_false] at HK
          have hv2 := hide (show weakP (conL l) strong weak x = strong.any (weakRef (conL l) x) by rw [hv1.out]; simp [hiw])
          go_upto_region 4 with (first | (go_at_call 19; refine (HF _).mono ?_; rintro r w1 ⟨rfl, hb1⟩; have l1 := later hb1) | (go_at_call 18; refine (HH _).mono ?_; rintro r w2 ⟨rfl, hb2⟩; have l2 := later hb2))
          go_wp2_with (go_at_call 18; refine (HK _).mono ?_; rintro r w3 ⟨rfl, hb3⟩; have l3 := later hb3)
          have hb03 : Below w0.heap.size w0 w3 := below_of
          clear HF HH HK hb1 l1 hb2 l2
          have l03 : Later w0 w3 := ⟨hb03⟩
          go_loopw [11] (fun iv wr => ∃ k : Nat, k ≤ strong.length ∧ iv = .int .i64 k ∧ NoneTo (weakRef (conL l) x) strong k ∧ Below w0.heap.size w0 wr) (fun iv _ => strong.length - (intOf iv).toNat)
          case atStart => exact ⟨0, by omega, rfl, NoneTo.zero, below_of⟩
          case round =>
            clear hb03 l3 hb3 l03
            obtain ⟨k, hk, rfl, hno, hbr⟩ := hrel
            have lr := later hbr
            have Hno := hide hno
            clear hno
            by_cases hlt : k < strong.length
            · obtain ⟨b1, o1, s, rfl, hs, C1⟩ := IDE.get (HS wr) hlt
              have Hs := hide hs
              have hki : (k : Int) < (strong.length : Int) := by omega
              clear hs
              have HFs : ∀ u [Later w u], Calls Try.prog 19 #[.agg #[.slice A l.length c], s.v] u (Find16Post l s u) := fun u j => find16_any A c l s u (HL u) (by omega)
              unfold Find16Post at HFs
              cases hfs : firstE l s with
              | none =>
                simp only [hfs, Option.getD_none, Option.isSome_none, zeroN] at HFs
                have hp := hide (show weakRef (conL l) x s = false by unfold weakRef; rw [firstE_N, hfs]; rfl)
                clear hfs
                go_upto_region 9 with fail
                go_region_held3 (fun w' => ∀ b [Later b wr], Later b w') ((intro b hb; first | infer_instance | (have hsz := hb.below.size; have h7 : Below b.heap.size b w7 := below_of; exact ⟨(by repeat (first | with_reducible exact h7 | with_reducible exact Below.refl _ _ | (with_reducible refine Below.drew ?_) | (with_reducible refine below_drewN ?_ _) | (with_reducible refine Below.alloc ?_ ?_ _; rotate_left; (first | omega | (simp <;> omega))) | (with_reducible refine Below.setCell ?_ ?_ _; rotate_left; (first | omega | (simp <;> omega)))))⟩))) ((go_at_call 19; refine (HFs _).mono ?_; rintro r w7 ⟨rfl, hb7⟩; have l7 := later hb7; try (have bx7 : w7.heap[wr.heap.size]? = some (.cells #[.int .i64 0, .int .i64 0, .int .i64 0, .int .i64 0, .slice none 0 0] 64 (0, 0)) := (hb7.block _ (by simp [heap_drew])).trans (heap_alloc_new wr _); have BX7 := boxed bx7)))
                all_goals go_wp2_with fail
                all_goals go_roundw
                all_goals first
                  | (exact ⟨k + 1, by omega, by go_num, Hno.out.succ Hs.out hp.out, below_of⟩)
                  | (simp [intOf]; omega)
              | some m =>
                simp only [hfs, Option.getD_some, Option.isSome_some] at HFs
                obtain ⟨hml, hmid⟩ := firstE_some hfs
                have hmf := hf m hml
                have hFd : ∀ u [Later w u], SlAt ValE.cells 4 u m.A m.fields := fun u j => (HL u).f m hml
                have hfn := hide (show firstN (conL l) s = some m.con by rw [firstE_N, hfs]; rfl)
                have hx1 : m.iDMachine = s.machine := congrArg IDE.machine hmid
                have hx2 : m.iDSerial = s.serial := congrArg IDE.serial hmid
                clear hfs hmid
                go_upto_region 9 with fail
                go_region_held3 (fun w' => ∀ b [Later b wr], Later b w') ((intro b hb; first | infer_instance | (have hsz := hb.below.size; have h7 : Below b.heap.size b w7 := below_of; exact ⟨(by repeat (first | with_reducible exact h7 | with_reducible exact Below.refl _ _ | (with_reducible refine Below.drew ?_) | (with_reducible refine below_drewN ?_ _) | (with_reducible refine Below.alloc ?_ ?_ _; rotate_left; (first | omega | (simp <;> omega))) | (with_reducible refine Below.setCell ?_ ?_ _; rotate_left; (first | omega | (simp <;> omega)))))⟩))) ((go_at_call 19; refine (HFs _).mono ?_; rintro r w7 ⟨rfl, hb7⟩; have l7 := later hb7; try (have bx7 : w7.heap[wr.heap.size]? = some (.cells #[.int .i64 0, .int .i64 0, .int .i64 0, .int .i64 0, .slice none 0 0] 64 (0, 0)) := (hb7.block _ (by simp [heap_drew])).trans (heap_alloc_new wr _); have BX7 := boxed bx7)))
                all_goals go_upto_region 10 with fail
                all_goals refine wp_name ?_
                all_goals intro w8 hw8
                all_goals have h7 : Below wr.heap.size wr w7 := below_of
                · have bx : w8.heap[w7.heap.size]? = some (.cells #[.int .i64 s.machine, .int .i64 s.serial, .int .i64 m.kind, .int .i64 m.clas, .slice m.A m.fields.length m.c] 64 (0, 0)) := by rw [← hw8]; exact heap_alloc_new w7 _
                  have hgz : wr.heap.size ≤ w7.heap.size := h7.size
                  have hb8 : Below wr.heap.size wr w8 := by rw [← hw8]; exact (by repeat (first | with_reducible exact h7 | with_reducible exact Below.refl _ _ | (with_reducible refine Below.drew ?_) | (with_reducible refine below_drewN ?_ _) | (with_reducible refine Below.alloc ?_ ?_ _; rotate_left; (first | omega | (simp <;> omega))) | (with_reducible refine Below.setCell ?_ ?_ _; rotate_left; (first | omega | (simp <;> omega)))))
                  clear hw8
                  have BN := boxed bx
                  have l8 := later hb8
                  have l88 : Later w8 w8 := Later.refl
                  cases hr : refersN m.con x
                  · have HRx := fun (u : World) (i : Later w u) => refers_any s.machine s.serial m.kind m.clas m.A m.c m.fields x u (hFd u) (by omega)
                    rw [show refersN ⟨s.machine, s.serial, m.kind, m.clas, m.fields⟩ x = false from hr] at HRx
                    have hp := hide (show weakRef (conL l) x s = false by unfold weakRef; rw [hfn.out]; exact hr)
                    go_wp2_with (go_at_call 43; refine (HRx _ inferInstance).mono ?_; rintro r w9 ⟨rfl, hb9⟩; have l9 := later hb9)
                    go_roundw
                    case rel => exact ⟨k + 1, by omega, by go_num, Hno.out.succ Hs.out hp.out, below_of⟩
                    case measure => simp [intOf]; omega
                  · have HRx := fun (u : World) (i : Later w u) => refers_any s.machine s.serial m.kind m.clas m.A m.c m.fields x u (hFd u) (by omega)
                    rw [show refersN ⟨s.machine, s.serial, m.kind, m.clas, m.fields⟩ x = true from hr] at HRx
                    have hp := hide (show strong.any (weakRef (conL l) x) = true from List.any_eq_true.2 ⟨s, List.mem_of_getElem? Hs.out, by unfold weakRef; rw [hfn.out]; exact hr⟩)
                    go_wp2_with (go_at_call 43; refine (HRx _ inferInstance).mono ?_; rintro r w9 ⟨rfl, hb9⟩; have l9 := later hb9)
                    go_ret
                    exact ⟨ret_bool (by rw [HV.out, hv2.out, hp.out]), below_of⟩
                · have bx : w8.heap[wr.heap.size]? = some (.cells #[.int .i64 s.machine, .int .i64 s.serial, .int .i64 m.kind, .int .i64 m.clas, .slice m.A m.fields.length m.c] 64 (0, 0)) := by rw [← hw8]; exact (blk_set (blk_set (blk_set (blk_set (blk_set (BX7 w7).1 0 _) 1 _) 2 _) 3 _) 4 _).trans rfl
                  have hgz : wr.heap.size ≤ wr.heap.size := Nat.le_refl _
                  have hb8 : Below wr.heap.size wr w8 := by rw [← hw8]; exact (by repeat (first | with_reducible exact h7 | with_reducible exact Below.refl _ _ | (with_reducible refine Below.drew ?_) | (with_reducible refine below_drewN ?_ _) | (with_reducible refine Below.alloc ?_ ?_ _; rotate_left; (first | omega | (simp <;> omega))) | (with_reducible refine Below.setCell ?_ ?_ _; rotate_left; (first | omega | (simp <;> omega)))))
                  clear hw8
                  have BN := boxed bx
                  have l8 := later hb8
                  have l88 : Later w8 w8 := Later.refl
                  cases hr : refersN m.con x
                  · have HRx := fun (u : World) (i : Later w u) => refers_any s.machine s.serial m.kind m.clas m.A m.c m.fields x u (hFd u) (by omega)
                    rw [show refersN ⟨s.machine, s.serial, m.kind, m.clas, m.fields⟩ x = false from hr] at HRx
                    have hp := hide (show weakRef (conL l) x s = false by unfold weakRef; rw [hfn.out]; exact hr)
                    go_wp2_with (go_at_call 43; refine (HRx _ inferInstance).mono ?_; rintro r w9 ⟨rfl, hb9⟩; have l9 := later hb9)
                    go_roundw
                    case rel => exact ⟨k + 1, by omega, by go_num, Hno.out.succ Hs.out hp.out, below_of⟩
                    case measure => simp [intOf]; omega
                  · have HRx := fun (u : World) (i : Later w u) => refers_any s.machine s.serial m.kind m.clas m.A m.c m.fields x u (hFd u) (by omega)
                    rw [show refersN ⟨s.machine, s.serial, m.kind, m.clas, m.fields⟩ x = true from hr] at HRx
                    have hp := hide (show strong.any (weakRef (conL l) x) = true from List.any_eq_true.2 ⟨s, List.mem_of_getElem? Hs.out, by unfold weakRef; rw [hfn.out]; exact hr⟩)
                    go_wp2_with (go_at_call 43; refine (HRx _ inferInstance).mono ?_; rintro r w9 ⟨rfl, hb9⟩; have l9 := later hb9)
                    go_ret
                    exact ⟨ret_bool (by rw [HV.out, hv2.out, hp.out]), below_of⟩
            · have hk' : k = strong.length := by omega
              subst hk'
              have hp := hide (show strong.any (weakRef (conL l) x) = false by
                rw [List.any_eq_false]
                intro v hv
                obtain ⟨j, hj⟩ := List.getElem?_of_mem hv
                simpa using Hno.out j v (List.getElem?_eq_some_iff.1 hj).1 hj)
              go_wp2_with fail
              go_ret
              exact ⟨ret_bool (by rw [HV.out, hv2.out, hp.out]), below_of⟩
    · have hkb : (n.kind != 3) = true := by simp [hk3]
      have hv := hide (show V = false by rw [HV.out]; unfold weakP; rw [hst.out]; simp [hk3])
      go_wp2_with (go_at_call 19; refine (HF _).mono ?_; rintro r w1 ⟨rfl, hb1⟩; have l1 := later hb1)
      go_ret
      exact ⟨ret_bool hv.out.symm, below_of⟩
end Go.Proofs.Ytnfpbkimdhhmfaa

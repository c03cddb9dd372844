/-
  Contracts of the functions of this seat that each theorem names: what a call returns, and that it writes nothing that was there before. The conditions stand in each theorem.
-/
import Derived.Test.YtnfpbkimdhhmfaaG30Dead
namespace Go.Proofs.Ytnfpbkimdhhmfaa
open Go.RowKit
attribute [local go_sem ↓] run_eql_id run_neq_id
attribute [local go_sem] Instr.makeFunc
attribute [local simp] heap_drew
set_option maxRecDepth 100000 in
set_option maxHeartbeats 4000000 in
theorem deadScions_any (A : Option Addr) (c : Nat) (l : List ScionE) (EA : Option Addr) (ec : Nat) (es : List StubE) (w : World) (hS : SlAt ScionE.cells 12 w A l) (hE : SlAt StubE.cells 12 w EA es) (hl : l.length ≤ 10000) (hel : es.length ≤ 10000) :
    Calls Try.prog 14 #[.slice A l.length c, .slice EA es.length ec] w (MsgPost es l w) := by
  have HL : ∀ u [Later w u], SlAt ScionE.cells 12 u A l := fun u i => hS.below i.below
  have HE : ∀ u [Later w u], SlAt StubE.cells 12 u EA es := fun u i => hE.below i.below
  have hl' : l.length ≤ 9223372036854775807 := by omega
  go_enter Try.func14, Try.ntmps14
  go_upto_region 1 with fail
  refine wp_name ?_
  intro w0 hw0
  obtain ⟨B0, l0⟩ := box1 hw0
  have l00 : Later w0 w0 := Later.refl
  clear hw0
  have HD : ∀ (s : ScionE) (u : World) [Later w0 u], Calls Try.prog 29 #[.agg #[.int .i64 s.iDMachine, .int .i64 s.iDSerial], .pointer (some ⟨w.heap.size, 0, none⟩)] u fun r w' => r = .returned (.bool (deadB es (idC s))) ∧ Below u.heap.size u w' := fun s u i => dead1_any w0 _ EA ec es B0 (HE w0) (by omega) (idC s) u
  go_wp2_with fail
  go_loopw [6, 12] (fun ov iv wr => ∃ (k : Nat) (o : List MsgE) (B : Option Addr) (D : Nat), k ≤ l.length ∧ iv = .int .i64 k ∧ Hid (o = msgL es (l.take k)) ∧ ov = .slice B o.length D ∧ Own MsgE.cells 39 55 w0.heap.size wr (.slice B o.length D) o ∧ Below w0.heap.size w0 wr) (fun _ iv _ => l.length - (intOf iv).toNat)
  case atStart => exact ⟨0, [], none, 0, by omega, rfl, hide rfl, rfl, Own.nil, below_of⟩
  case round =>
    obtain ⟨k, o, B, D, hk, rfl, ho, rfl, hoo, hbr⟩ := hrel
    have lr := later hbr
    have hzr := hbr.size
    have hol : o.length ≤ 10000 := by rw [ho.out]; exact Nat.le_trans msgL_len (by omega)
    by_cases hlt : k < l.length
    · obtain ⟨b1, o1, s, rfl, hs, C1⟩ := ScionE.get (HL wr) hlt
      have hki : (k : Int) < (l.length : Int) := by omega
      have HT := hide (msgL_take (es := es) hs)
      clear hs
      have HDx := fun (u : World) (i : Later w0 u) => HD s u
      go_upto_region 6 with fail
      refine wp_name ?_
      intro w2 hw2
      obtain ⟨BX, l2⟩ := box1 hw2
      have l22 : Later w2 w2 := Later.refl
      clear hw2
      cases hw : s.weak
      · cases hg : s.garbage
        · have hc1 := hide (show msgOf es s = none by unfold msgOf; rw [hw, hg]; rfl)
          go_wp2_with fail
          go_roundw
          case rel => exact ⟨k + 1, o, B, D, by omega, by go_num, hide (by rw [HT.out, hc1.out, ho.out]; simp), rfl, hoo.later _, below_of⟩
          case measure => simp [intOf]; omega
        · cases hd : deadB es (idC s) <;> simp only [hd] at HDx
          · have hc1 := hide (show msgOf es s = none by unfold msgOf; rw [hd]; simp)
            clear hd
            go_wp2_with (go_at_call 29; refine (HDx _ inferInstance).mono ?_; rintro r w4 ⟨rfl, hb4⟩; have l4 := later hb4)
            go_roundw
            case rel => exact ⟨k + 1, o, B, D, by omega, by go_num, hide (by rw [HT.out, hc1.out, ho.out]; simp), rfl, hoo.later _, below_of⟩
            case measure => simp [intOf]; omega
          · have hc1 := hide (show msgOf es s = some ⟨s.number, s.client⟩ by unfold msgOf; rw [hd, hg]; simp)
            clear hd
            go_upto_region 7 with (go_at_call 29; refine (HDx _ inferInstance).mono ?_; rintro r w4 ⟨rfl, hb4⟩; have l4 := later hb4)
            refine wp_name ?_
            intro w7 hw7
            have l7 := later_name' hw7 (inferInstance : Later w2 _)
            clear hw7
            go_wp2_with (at_builtin; refine wpList_app1 rfl (.tmp 28) (.tmp 34) rfl MsgE.enc msgT ⟨s.number, s.client⟩ rfl rfl rfl (hoo.later _) (by rfl) (by omega) (by unfold maxLen; omega) (show Below w0.heap.size w0 _ from below_of).size ?_; intro A5 c5 w5 ho5 hm5 hb5 hg5 hat5)
            go_roundw
            case rel => exact ⟨k + 1, o ++ [⟨s.number, s.client⟩], A5, c5, by omega, by go_num, hide (by rw [HT.out, hc1.out, ho.out]; simp), by rw [List.length_append, List.length_singleton], by rw [List.length_append, List.length_singleton]; exact ho5, (show Below w0.heap.size w0 _ from below_of).trans hb5⟩
            case measure => simp [intOf]; omega
      · cases hd : deadB es (idC s) <;> simp only [hd] at HDx
        · have hc1 := hide (show msgOf es s = none by unfold msgOf; rw [hd]; simp)
          clear hd
          go_wp2_with (go_at_call 29; refine (HDx _ inferInstance).mono ?_; rintro r w4 ⟨rfl, hb4⟩; have l4 := later hb4)
          go_roundw
          case rel => exact ⟨k + 1, o, B, D, by omega, by go_num, hide (by rw [HT.out, hc1.out, ho.out]; simp), rfl, hoo.later _, below_of⟩
          case measure => simp [intOf]; omega
        · have hc1 := hide (show msgOf es s = some ⟨s.number, s.client⟩ by unfold msgOf; rw [hd, hw]; simp)
          clear hd
          go_upto_region 7 with (go_at_call 29; refine (HDx _ inferInstance).mono ?_; rintro r w4 ⟨rfl, hb4⟩; have l4 := later hb4)
          refine wp_name ?_
          intro w7 hw7
          have l7 := later_name' hw7 (inferInstance : Later w2 _)
          clear hw7
          go_wp2_with (at_builtin; refine wpList_app1 rfl (.tmp 28) (.tmp 34) rfl MsgE.enc msgT ⟨s.number, s.client⟩ rfl rfl rfl (hoo.later _) (by rfl) (by omega) (by unfold maxLen; omega) (show Below w0.heap.size w0 _ from below_of).size ?_; intro A5 c5 w5 ho5 hm5 hb5 hg5 hat5)
          go_roundw
          case rel => exact ⟨k + 1, o ++ [⟨s.number, s.client⟩], A5, c5, by omega, by go_num, hide (by rw [HT.out, hc1.out, ho.out]; simp), by rw [List.length_append, List.length_singleton], by rw [List.length_append, List.length_singleton]; exact ho5, (show Below w0.heap.size w0 _ from below_of).trans hb5⟩
          case measure => simp [intOf]; omega
    · have hk' : k = l.length := by omega
      subst hk'
      have hof := hide (show o = msgL es l by rw [ho.out, List.take_length])
      go_wp2_with fail
      go_ret
      exact ⟨o, B, D, hof, rfl, hoo.mono (show Below w.heap.size w w0 from below_of).size, below_of⟩
end Go.Proofs.Ytnfpbkimdhhmfaa

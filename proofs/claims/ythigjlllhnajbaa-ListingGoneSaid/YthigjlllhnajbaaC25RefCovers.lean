/-
  Contracts of the functions of this seat that each theorem names: what a call returns, and that it writes nothing that was there before. The conditions stand in each theorem.
-/
import Derived.Test.YthigjlllhnajbaaC25Covers2
namespace Go.Proofs.Ythigjlllhnajbaa
open Go.RowKit
attribute [local go_sem ↓] run_eql_id
theorem any_take {α : Type} {p : α → Bool} {l : List α} {k : Nat} {x : α} (hx : l[k]? = some x) : (l.take (k + 1)).any p = ((l.take k).any p || p x) := by rw [take_snoc_get hx]; simp
theorem any_none {α : Type} {p : α → Bool} {l : List α} (h : NoneTo p l l.length) : l.any p = false := by
  rw [List.any_eq_false]
  intro x hx
  obtain ⟨j, hj⟩ := List.getElem?_of_mem hx
  simp [h j x (List.getElem?_eq_some_iff.1 hj).1 hj]
theorem any_hit {α : Type} {p : α → Bool} {l : List α} {k : Nat} {x : α} (hx : l[k]? = some x) (h : p x = true) : l.any p = true := List.any_eq_true.2 ⟨x, List.mem_of_getElem? hx, h⟩
set_option maxRecDepth 100000 in
set_option maxHeartbeats 4000000 in
theorem refCovers_any (A : Option Addr) (c : Nat) (xs : List ScionE) (B : Option Addr) (d : Nat) (es : List StubE) (owner client : Int) (w : World) (hs : SlAt ScionE.cells 12 w A xs) (he : SlAt StubE.cells 12 w B es) (hl : xs.length ≤ 9223372036854775807) (hel : es.length ≤ 9223372036854775807) :
    Calls Try.prog 26 #[.slice A xs.length c, .slice B es.length d, .int .i64 owner, .int .i64 client] w fun r w' => r = .returned (.bool (coversB xs es owner client)) ∧ Below w.heap.size w w' := by
  have Hs : ∀ u [Later w u], SlAt ScionE.cells 12 u A xs := fun u i => hs.below i.below
  have He : ∀ u [Later w u], SlAt StubE.cells 12 u B es := fun u i => he.below i.below
  clear hs he
  go_enter Try.func26, Try.ntmps26
  go_wp2_with fail
  go_loopw [9, 10, 11, 12, 13] (fun i _ _ _ _ wr => ∃ k : Nat, k ≤ es.length ∧ i = .int .i64 k ∧ NoneTo (lackB xs owner client) es k ∧ Below w.heap.size w wr) (fun i _ _ _ _ _ => es.length - (intOf i).toNat)
  case atStart => exact ⟨0, by omega, rfl, NoneTo.zero, Below.refl _ _⟩
  case round =>
    obtain ⟨k, hk, rfl, hno, hbr⟩ := hrel
    have lr := later hbr
    have Hno := hide hno
    clear hno
    by_cases hlt : k < es.length
    · obtain ⟨g, o, e, rfl, hx, C1⟩ := StubE.get (He wr) hlt
      have Hx := hide hx
      clear hx
      by_cases ho : e.owner = owner
      · cases hd : e.dead
        · cases hw : e.weak
          · skip
            go_upto_region 6 with fail
            refine wp_name ?_
            intro w1 hw1
            have l1 := later_name' hw1 (inferInstance : Later wr _)
            have B1 : Boxed w1 wr.heap.size e.arr 34 := boxed (by rw [← hw1]; simp only [heap_alloc_if, World.size_alloc]; (repeat (first | rw [if_pos trivial] | rw [if_neg (by omega)] | rw [if_pos (by omega)])); simp [ho, hd, hw])
            clear hw1
            go_wp2_with fail
            go_loopw [11, 12, 13] (fun fo i _ w2 => ∃ m : Nat, m ≤ xs.length ∧ i = .int .i64 m ∧ fo = .bool ((xs.take m).any (coverB client e)) ∧ Below w1.heap.size w1 w2) (fun _ i _ _ => xs.length - (intOf i).toNat)
            case atStart => exact ⟨0, by omega, rfl, rfl, Below.refl _ _⟩
            case round =>
              obtain ⟨m, hm, rfl, rfl, hbr2⟩ := hrel
              have lr2 := later hbr2
              by_cases hlt2 : m < xs.length
              · obtain ⟨g2, o2, x, rfl, hy, C2⟩ := ScionE.get (Hs wr) hlt2
                have HT := hide (any_take (p := coverB client e) hy)
                clear hy
                cases hf : (xs.take m).any (coverB client e)
                · go_wp2_with fail
                  all_goals go_roundw
                  all_goals first
                    | (exact ⟨m + 1, by omega, by go_num, by rw [HT.out, hf]; first | (simp [coverB, *]; done) | (simp [coverB, bnt ‹(!_) = true›, *]; done) | (simp [coverB, bnf ‹(!_) = false›, *]; done), below_of⟩)
                    | (simp [intOf]; omega)
                · go_wp2_with fail
                  go_roundw
                  case rel => exact ⟨m + 1, by omega, by go_num, by rw [HT.out, hf]; rfl, below_of⟩
                  case measure => simp [intOf]; omega
              · have hm' : m = xs.length := by omega
                subst hm'
                rw [List.take_length]
                cases ha : xs.any (coverB client e)
                · have hf := hide (any_hit Hx.out (show lackB xs owner client e = true by simp [lackB, ho, hd, ha]))
                  go_wp2_with fail
                  go_ret
                  exact ⟨ret_bool (by simp [coversB, hf.out]), below_of⟩
                · have hno := hide (Hno.out.succ Hx.out (show lackB xs owner client e = false by simp [lackB, ho, hd, ha]))
                  go_wp2_with fail
                  go_roundw
                  case rel => exact ⟨k + 1, by omega, by go_num, hno.out, below_of⟩
                  case measure => simp [intOf]; omega
          · skip
            go_upto_region 6 with fail
            refine wp_name ?_
            intro w1 hw1
            have l1 := later_name' hw1 (inferInstance : Later wr _)
            have B1 : Boxed w1 wr.heap.size e.arr 34 := boxed (by rw [← hw1]; simp only [heap_alloc_if, World.size_alloc]; (repeat (first | rw [if_pos trivial] | rw [if_neg (by omega)] | rw [if_pos (by omega)])); simp [ho, hd, hw])
            clear hw1
            go_wp2_with fail
            go_loopw [11, 12, 13] (fun fo i _ w2 => ∃ m : Nat, m ≤ xs.length ∧ i = .int .i64 m ∧ fo = .bool ((xs.take m).any (coverB client e)) ∧ Below w1.heap.size w1 w2) (fun _ i _ _ => xs.length - (intOf i).toNat)
            case atStart => exact ⟨0, by omega, rfl, rfl, Below.refl _ _⟩
            case round =>
              obtain ⟨m, hm, rfl, rfl, hbr2⟩ := hrel
              have lr2 := later hbr2
              by_cases hlt2 : m < xs.length
              · obtain ⟨g2, o2, x, rfl, hy, C2⟩ := ScionE.get (Hs wr) hlt2
                have HT := hide (any_take (p := coverB client e) hy)
                clear hy
                cases hf : (xs.take m).any (coverB client e)
                · go_wp2_with fail
                  all_goals go_roundw
                  all_goals first
                    | (exact ⟨m + 1, by omega, by go_num, by rw [HT.out, hf]; first | (simp [coverB, *]; done) | (simp [coverB, bnt ‹(!_) = true›, *]; done) | (simp [coverB, bnf ‹(!_) = false›, *]; done), below_of⟩)
                    | (simp [intOf]; omega)
                · go_wp2_with fail
                  go_roundw
                  case rel => exact ⟨m + 1, by omega, by go_num, by rw [HT.out, hf]; rfl, below_of⟩
                  case measure => simp [intOf]; omega
              · have hm' : m = xs.length := by omega
                subst hm'
                rw [List.take_length]
                cases ha : xs.any (coverB client e)
                · have hf := hide (any_hit Hx.out (show lackB xs owner client e = true by simp [lackB, ho, hd, ha]))
                  go_wp2_with fail
                  go_ret
                  exact ⟨ret_bool (by simp [coversB, hf.out]), below_of⟩
                · have hno := hide (Hno.out.succ Hx.out (show lackB xs owner client e = false by simp [lackB, ho, hd, ha]))
                  go_wp2_with fail
                  go_roundw
                  case rel => exact ⟨k + 1, by omega, by go_num, hno.out, below_of⟩
                  case measure => simp [intOf]; omega
        · have hno := hide (Hno.out.succ Hx.out (show lackB xs owner client e = false by simp [lackB, hd]))
          go_wp2_with fail
          go_roundw
          case rel => exact ⟨k + 1, by omega, by go_num, hno.out, below_of⟩
          case measure => simp [intOf]; omega
      · have hno := hide (Hno.out.succ Hx.out (show lackB xs owner client e = false by simp [lackB, ho]))
        have hob : (e.owner != owner) = true := by simp [ho]
        go_wp2_with fail
        go_roundw
        case rel => exact ⟨k + 1, by omega, by go_num, hno.out, below_of⟩
        case measure => simp [intOf]; omega
    · have hk' : k = es.length := by omega
      subst hk'
      have hf := hide (any_none Hno.out)
      go_wp2_with fail
      go_ret
      exact ⟨ret_bool (by simp [coversB, hf.out]), below_of⟩
end Go.Proofs.Ythigjlllhnajbaa

/-
  Contracts of the functions of this seat that each theorem names: what a call returns, and that it writes nothing that was there before. The conditions stand in each theorem.
-/
import Derived.Test.YtomgdkfoinojiaaGrpC
set_option linter.unusedSimpArgs false
set_option linter.unusedVariables false
namespace Go.Proofs.Ytomgdkfoinojiaa
open Go.RowKit
theorem Own.one_blk {e : TypeId} {base g : Nat} {w : World} {x : Int} (hb : base ≤ g) (h : w.heap[g]? = some (.cells #[.int .u8 x] e (0, 0))) : Own U8.cells 1 e base w (.slice (some ⟨g, 0, none⟩) 1 1) [x] := by
  refine ⟨by simp [U8.cells], .inr ⟨g, 1, #[.int .u8 x], rfl, hb, h, ?_⟩⟩
  simp [maxLen, U8.cells]
/-- Bytes L, in a slice of the call's own. -/
def BPost (L : List Int) (w : World) (r : Ending) (w' : World) : Prop := ∃ (q : List Int) (A : Option Addr) (c : Nat), Hid (q = L) ∧ r = .returned (.slice A q.length c) ∧ SlAt U8.cells 1 w' A q ∧ Below w.heap.size w w'
set_option maxRecDepth 100000 in
set_option maxHeartbeats 2000000 in
theorem refUint_any (A : Option Addr) (c : Nat) (l : List Int) (n : Int) (w : World) (hs : SlAt U8.cells 1 w A l) (hl : l.length ≤ 1000000000) (h0 : 0 ≤ n) (h1 : n < 18446744073709551616) :
    Calls Try.prog 61 #[.slice A l.length c, .int .u64 n] w (BPost (l ++ uintL n) w) := by
  have HS : ∀ u [Later w u], SlAt U8.cells 1 u A l := fun u i => hs.below i.below
  obtain ⟨N, rfl⟩ : ∃ N : Nat, n = (N : Int) := ⟨n.toNat, by omega⟩
  have hd8 : (digs N).length ≤ 8 := digs_len (by omega)
  go_enter Try.func61, Try.ntmps61
  go_upto_region 2 with fail
  refine wp_name ?_
  intro w1 hw1
  have l1 := later_name' hw1 (inferInstance : Later w _)
  have hb1 : Below w.heap.size w w1 := below_of
  have hE : Own U8.cells 1 5 w.heap.size w1 (.slice (some ⟨w.heap.size, 0, none⟩) 0 0) [] := Own.empty_blk (Nat.le_refl _) (by rw [← hw1]; simp only [heap_alloc_if, World.size_alloc]; repeat (first | rw [if_pos trivial] | rw [if_neg (by omega)] | rw [if_pos (by omega)]); try rfl)
  clear hw1
  go_wp2_with fail
  go_loopw [1, 5] (fun m v wr => ∃ (p : Nat) (A1 : Option Addr) (c1 : Nat) (ds : List Int), m = .int .u64 (p : Int) ∧ p < 18446744073709551616 ∧ v = .slice A1 ds.length c1 ∧ digs N = digs p ++ ds ∧ Own U8.cells 1 5 w.heap.size wr (.slice A1 ds.length c1) ds ∧ Below w.heap.size w wr) (fun m _ _ => (intOf m).toNat)
  case atStart => exact ⟨N, _, 0, [], rfl, by omega, rfl, by simp, hE, hb1⟩
  case round =>
    obtain ⟨p, A1, c1, ds, rfl, hp18, rfl, hd, ho, hbr⟩ := hrel
    have hdl : ds.length ≤ 8 := by have := congrArg List.length hd; simp at this; omega
    have Hd := hide hd
    clear hd
    have lr := later hbr
    have hzr := hbr.size
    by_cases hp : 0 < p
    · have hpi : decide ((0 : Int) < (p : Int)) = true := by simpa using hp
      have hS1 := (ho.at_ U8.enc).2.2
      go_upto_region 3 with fail
      go_wp2_with (at_builtin; refine wpList_appN rfl (.tmp 12) (.tmp 13) rfl U8.enc byteT _ _ ds rfl rfl (Own.one_blk (x := (p : Int) % 256) hzr (heap_alloc_new _ _)) (hS1.below (by repeat (first | with_reducible exact Below.refl _ _ | (with_reducible refine Below.drew ?_) | (with_reducible refine below_drewN ?_ _) | (with_reducible refine Below.alloc ?_ ?_ _; rotate_left; (first | omega | (simp <;> omega))) | (with_reducible refine Below.setCell ?_ ?_ _; rotate_left; (first | omega | (simp <;> omega)))))) (by simp; omega) (by simp [maxLen]; omega) (by simp; omega) ?_; intro A2 c2 w2 ho2 hm2 hb2 hg2 ha2)
      go_roundw
      case rel =>
        have hlen : ([(p : Int) % 256] : List Int).length + ds.length = ((p : Int) % 256 :: ds).length := by simp; omega
        rw [hlen] at ho2
        exact ⟨p / 256, A2, c2, (p : Int) % 256 :: ds, by go_num, by omega, by rw [← hlen]; rfl, by rw [Hd.out, digs_pos hp, List.append_assoc]; simp, ho2, (hbr.alloc (by omega) _).trans (hb2.mono (Nat.le_refl _))⟩
      case measure => simp [intOf]; omega
    · have hpi : decide ((0 : Int) < (p : Int)) = false := by simpa using hp
      have hp0 : p = 0 := by omega
      subst hp0
      have hds : ds = digs N := by have := Hd.out; rw [digs_zero, List.nil_append] at this; exact this.symm
      have Hds := hide hds
      have hw8 : (ds.length : Int) % 256 = (ds.length : Int) := by omega
      clear hds
      have hS1 := (ho.at_ U8.enc).2.2
      have HD : ∀ u [Later wr u], SlAt U8.cells 1 u A1 ds := fun u i => hS1.below i.below
      go_upto_region 5 with fail
      go_wp2_with ((first
        | (at_builtin; refine wpList_appN rfl (.tmp 24) (.tmp 25) rfl U8.enc byteT _ _ ds rfl rfl ho3 (HD _) (by rw [List.length_append, List.length_singleton]; omega) (by rw [List.length_append, List.length_singleton]; unfold maxLen; omega) (by omega) ?_; intro A4 c4 w4 ho4 hm4 hb4 hg4 ha4)
        | (at_builtin; refine wpList_app1 rfl (.tmp 19) (.tmp 23) rfl U8.enc byteT (ds.length : Int) rfl rfl rfl ho2 (by rfl) (by omega) (by unfold maxLen; omega) hz2 ?_; intro A3 c3 w3 ho3 hm3 hb3 hg3 ha3; have l3 := later_base (W := wr) (hb3.mono hzw2); have hz3 : wr.heap.size ≤ w3.heap.size := (l3 wr).below.size)
        | (at_builtin; refine wpList_appE rfl (.tmp 17) (.tmp 18) rfl U8.enc byteT _ _ l rfl rfl (HS _) (by omega) (by unfold maxLen; omega) ?_; intro A2 c2 w2 ho2 hm2 hb2; have l2 := later hb2; have hz2 : wr.heap.size ≤ w2.heap.size := hb2.size; have hzw2 : wr.heap.size ≤ wr.heap.size := Nat.le_refl _)))
      go_ret
      have hq2 : (l ++ [(ds.length : Int)] ++ ds).length = l.length + 1 + ds.length := by simp; omega
      refine ⟨l ++ [(ds.length : Int)] ++ ds, A4, c4, hide (by rw [Hds.out, uintL, Int.toNat_natCast, List.append_assoc]; rfl), by first | (rw [hq2]; rfl) | (rw [List.length_append]; rfl), (ho4.at_ U8.enc).2.2, hbr.trans (((hb2.trans hb3).trans hb4).mono hzr)⟩
def bool2L (l : List Int) (b : Bool) : List Int := l ++ boolL b
set_option maxRecDepth 100000 in
set_option maxHeartbeats 2000000 in
theorem refBool_any (A : Option Addr) (c : Nat) (l : List Int) (b : Bool) (w : World) (hs : SlAt U8.cells 1 w A l) (hl : l.length ≤ 1000000000) :
    Calls Try.prog 62 #[.slice A l.length c, .bool b] w (BPost (l ++ boolL b) w) := by
  have HS : ∀ u [Later w u], SlAt U8.cells 1 u A l := fun u i => hs.below i.below
  cases b
  · go_enter Try.func62, Try.ntmps62
    go_upto_region 3 with fail
    go_wp2_with ((first
      | (at_builtin; refine wpList_app1 rfl (.tmp 13) (.tmp 14) rfl U8.enc byteT 0 rfl rfl rfl ho2 (by rfl) (by omega) (by unfold maxLen; omega) hz2 ?_; intro A3 c3 w3 ho3 hm3 hb3 hg3 ha3)
      | (at_builtin; refine wpList_appE rfl (.tmp 11) (.tmp 12) rfl U8.enc byteT _ _ l rfl rfl (HS _) (by omega) (by unfold maxLen; omega) ?_; intro A2 c2 w2 ho2 hm2 hb2; have hz2 : w.heap.size ≤ w2.heap.size := hb2.size)))
    go_ret
    exact ⟨l ++ [0], A3, c3, hide (by rfl), by rw [List.length_append]; rfl, by have := (ho3.at_ U8.enc).2.2; exact this, hb2.trans hb3⟩
  · go_enter Try.func62, Try.ntmps62
    go_upto_region 2 with fail
    go_wp2_with ((first
      | (at_builtin; refine wpList_app1 rfl (.tmp 8) (.tmp 9) rfl U8.enc byteT 1 rfl rfl rfl ho2 (by rfl) (by omega) (by unfold maxLen; omega) hz2 ?_; intro A3 c3 w3 ho3 hm3 hb3 hg3 ha3)
      | (at_builtin; refine wpList_appE rfl (.tmp 6) (.tmp 7) rfl U8.enc byteT _ _ l rfl rfl (HS _) (by omega) (by unfold maxLen; omega) ?_; intro A2 c2 w2 ho2 hm2 hb2; have hz2 : w.heap.size ≤ w2.heap.size := hb2.size)))
    go_ret
    exact ⟨l ++ [1], A3, c3, hide (by rfl), by rw [List.length_append]; rfl, by have := (ho3.at_ U8.enc).2.2; exact this, hb2.trans hb3⟩
end Go.Proofs.Ytomgdkfoinojiaa

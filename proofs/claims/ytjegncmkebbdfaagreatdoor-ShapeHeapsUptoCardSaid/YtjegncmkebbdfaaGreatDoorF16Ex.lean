/-
  The example of the chapter, and what the functions answer at it. Conditions stand in each theorem.
-/
import Derived.Test.YtjegncmkebbdfaaGreatDoorGrp69
import Derived.Test.YtjegncmkebbdfaaGreatDoorGReach
import Derived.Test.YtjegncmkebbdfaaGreatDoorGrp66
import Derived.Test.YtjegncmkebbdfaaGreatDoorRChk
set_option linter.unusedSimpArgs false
set_option linter.unusedVariables false
namespace Go.Proofs.YtjegncmkebbdfaaGreatDoor
open Go.RowKit
attribute [local go_sem] Oper.semAt_some Instr.makeFunc
attribute [local simp] heap_drew
def iD (k : Int) : IDE := ⟨1, k⟩
def xL : List NodeC := [⟨1, 1, 0, 2, [⟨0, 0, 0, 0⟩, ⟨1, 5, 0, 0⟩, ⟨2, 0, 1, 3⟩]⟩, ⟨1, 2, 2, 0, [⟨2, 0, 1, 4⟩]⟩, ⟨1, 3, 3, 1, []⟩]
abbrev sl1 (g n : Nat) : Value := .slice (some ⟨g, 0, none⟩) n n
def exN (g : Nat) (u : World) : Prop := ∃ ns : List NodeE, conL ns = xL ∧ ns.length = 3 ∧ NodesAt u (some ⟨g, 0, none⟩) ns
theorem exN_later {g : Nat} {u u' : World} (l : Later u u') (h : exN g u) : exN g u' := by
  obtain ⟨ns, h1, h2, h3⟩ := h
  exact ⟨ns, h1, h2, h3.below l.below⟩
theorem ex_flds {ns : List NodeE} (h : conL ns = xL) : ∀ n ∈ ns, n.fields.length ≤ 1000 := fun n hn => by
  have : n.con ∈ xL := by rw [← h]; exact List.mem_map.2 ⟨n, hn, rfl⟩
  have h2 : n.con.fields.length = n.fields.length := by simp [NodeE.con]
  rw [← h2]
  simp only [xL, List.mem_cons, List.not_mem_nil, or_false] at this
  rcases this with e | e | e <;> rw [e] <;> decide
theorem x_valid : valid16B xL = true := by decide
theorem x_r1 : ReachL xL [iD 1] [iD 1, iD 3] := chk_reachL (by decide) (by decide) (by decide)
theorem x_r2 : ReachL xL [iD 2] [iD 2] := chk_reachL (by decide) (by decide) (by decide)
theorem itoa_d (i : Nat) (h : i < 10) : Lib.itoa (i : Int) = [UInt8.ofNat (48 + i)] := by
  unfold Lib.itoa
  rw [if_neg (by omega), Int.toNat_natCast, Lib.decDigits_one h]
abbrev x1 : List UInt8 := [109, 49, 58, 49, 32, 114, 101, 99, 111, 114, 100, 32, 50, 32, 40, 110, 105, 108, 44, 32, 53, 44, 32, 109, 49, 58, 51, 41]
abbrev x2 : List UInt8 := [109, 49, 58, 50, 32, 119, 101, 97, 107, 32, 48, 32, 40, 109, 49, 58, 52, 41]
abbrev x3 : List UInt8 := [109, 49, 58, 51, 32, 115, 116, 117, 98, 32, 49]
theorem x_lines : linesB xL = [x1, x2, x3] := by
  have i0 : Lib.itoa 0 = [48] := itoa_d 0 (by decide)
  have i1 : Lib.itoa 1 = [49] := itoa_d 1 (by decide)
  have i2 : Lib.itoa 2 = [50] := itoa_d 2 (by decide)
  have i3 : Lib.itoa 3 = [51] := itoa_d 3 (by decide)
  have i4 : Lib.itoa 4 = [52] := itoa_d 4 (by decide)
  have i5 : Lib.itoa 5 = [53] := itoa_d 5 (by decide)
  unfold linesB
  rw [if_pos x_valid]
  simp [xL, lineB, nameB, textB, kindNmB, NodeC.id, ValE.ref, i0, i1, i2, i3, i4, i5, Lib.join, List.intercalate]
set_option maxRecDepth 100000 in
set_option maxHeartbeats 1000000 in
theorem exId_any (n : Int) (w : World) : Calls Tryz.prog 45 #[.int .i64 n] w fun r w' => r = .returned (.agg #[.int .i64 1, .int .i64 n]) ∧ Below w.heap.size w w' := by
  go_enter Tryz.func45, Tryz.ntmps45
  go_upto_region 1 with fail
  refine wp_name ?_
  intro w1 hw1
  obtain ⟨B0, l1⟩ := box1 hw1
  clear hw1
  have l11 : Later w1 w1 := Later.refl
  go_wp2_with fail
  have h8 := blk_set (blk_set (B0 w1).1 0 (.int .i64 1)) 1 (.int .i64 n)
  simp only [List.setIfInBounds_toArray, List.set_cons_zero, List.set_cons_succ] at h8
  have r0 := blk_cell h8 0
  have r1 := blk_cell h8 1
  simp at r0 r1
  refine bodyPost_ret (v := .agg #[.int .i64 1, .int .i64 n]) (by simp [results, Tryz.results45, go_sem, r0, r1]) rfl ⟨rfl, ?_⟩
  exact ((l1 w).below.setCell (p := ⟨w.heap.size, 0, none⟩) (Nat.le_refl _) _).setCell (p := ⟨w.heap.size, 1, none⟩) (Nat.le_refl _) _
set_option maxRecDepth 100000 in
set_option maxHeartbeats 4000000 in
theorem example_any (w : World) : Calls Tryz.prog 17 #[] w fun r w' => ∃ g, r = .returned (.agg #[sl1 g 3]) ∧ exN g w' ∧ Below w.heap.size w w' := by
  go_enter Tryz.func17, Tryz.ntmps17
  go_upto_region 2 with fail
  refine wp_name ?_
  intro w1 hw1
  have h0 : w1.heap[w.heap.size]? = some (.cells #[.slice none 0 0] 27 (0, 0)) := (by rw [← hw1]; simp only [heap_alloc_if, World.size_alloc]; repeat (first | rw [if_pos trivial] | rw [if_neg (by omega)] | rw [if_pos (by omega)]); try rfl)
  have hb1 : Below w.heap.size w w1 := by rw [← hw1]; exact (by repeat (first | with_reducible exact Below.refl _ _ | (with_reducible refine Below.drew ?_) | (with_reducible refine below_drewN ?_ _) | (with_reducible refine Below.alloc ?_ ?_ _; rotate_left; (first | omega | (simp <;> omega))) | (with_reducible refine Below.setCell ?_ ?_ _; rotate_left; (first | omega | (simp <;> omega)))))
  have hz1 : w.heap.size < w1.heap.size := by rw [← hw1]; simp
  clear hw1
  have l1 := later hb1
  have l11 : Later w1 w1 := Later.refl
  have B0 := boxed h0
  go_wp2_with (go_at_call 45; refine (exId_any _ _).mono ?_; rintro r w2 ⟨rfl, hb2⟩; have l2 := later hb2; have l22 : Later w2 w2 := Later.refl)
  rename_i v1 a1 a2 a3 v2 b1 b2 b3 v3 c1 c2 c3 v4 d1 d2 d3
  have q1 := blk_below (blk_below (heap_alloc_new v2 (.cells #[.int .i64 0, .int .i64 0, .int .i64 0, .int .i64 0, .int .i64 1, .int .i64 5, .int .i64 0, .int .i64 0, .int .i64 2, .int .i64 0, .int .i64 1, .int .i64 3] 46 (0, 0))) c1) d1
  have q2 := blk_below (heap_alloc_new v4 (.cells #[.int .i64 2, .int .i64 0, .int .i64 1, .int .i64 4] 46 (0, 0))) hb2
  have q1 := blk_below (blk_below q1 ((Below.refl _ _).alloc (Nat.le_refl _) (.cells #[.int .i64 2, .int .i64 0, .int .i64 1, .int .i64 4] 46 (0, 0)))) hb2
  have q0 := blk_below (blk_below (blk_below h0 a1) b1) ((Below.refl _ _).alloc (Nat.le_refl _) (.cells #[.int .i64 0, .int .i64 0, .int .i64 0, .int .i64 0, .int .i64 1, .int .i64 5, .int .i64 0, .int .i64 0, .int .i64 2, .int .i64 0, .int .i64 1, .int .i64 3] 46 (0, 0)))
  have q0 := blk_below (blk_below (blk_below (blk_below q0 c1) d1) ((Below.refl _ _).alloc (Nat.le_refl _) (.cells #[.int .i64 2, .int .i64 0, .int .i64 1, .int .i64 4] 46 (0, 0)))) hb2
  have q3 := heap_alloc_new w2 (.cells #[.int .i64 1, .int .i64 1, .int .i64 0, .int .i64 2, sl1 v2.heap.size 3, .int .i64 1, .int .i64 2, .int .i64 2, .int .i64 0, sl1 v4.heap.size 1, .int .i64 1, .int .i64 3, .int .i64 3, .int .i64 1, .slice none 0 0] 51 (0, 0))
  have hba : Below w2.heap.size w2 (w2.alloc (.cells #[.int .i64 1, .int .i64 1, .int .i64 0, .int .i64 2, sl1 v2.heap.size 3, .int .i64 1, .int .i64 2, .int .i64 2, .int .i64 0, sl1 v4.heap.size 1, .int .i64 1, .int .i64 3, .int .i64 3, .int .i64 1, .slice none 0 0] 51 (0, 0))) := (Below.refl _ _).alloc (Nat.le_refl _) _
  have q1 := blk_below q1 hba
  have q2 := blk_below q2 hba
  have q0 := blk_below q0 hba
  have e1 := a1.size
  have e2 := b1.size
  have e3 := c1.size
  have e4 := d1.size
  have e5 := hb2.size
  simp only [World.size_alloc] at e3 e5
  have hbw : Below w.heap.size w (w2.alloc (.cells #[.int .i64 1, .int .i64 1, .int .i64 0, .int .i64 2, sl1 v2.heap.size 3, .int .i64 1, .int .i64 2, .int .i64 2, .int .i64 0, sl1 v4.heap.size 1, .int .i64 1, .int .i64 3, .int .i64 3, .int .i64 1, .slice none 0 0] 51 (0, 0))) := below_of
  generalize w2.alloc (.cells #[.int .i64 1, .int .i64 1, .int .i64 0, .int .i64 2, sl1 v2.heap.size 3, .int .i64 1, .int .i64 2, .int .i64 2, .int .i64 0, sl1 v4.heap.size 1, .int .i64 1, .int .i64 3, .int .i64 3, .int .i64 1, .slice none 0 0] 51 (0, 0)) = w8 at q0 q1 q2 q3 hbw ⊢
  have q1 := (blk_far (p := ⟨w.heap.size, 0, none⟩) (show v2.heap.size ≠ w.heap.size by omega) (sl1 w2.heap.size 3)).trans q1
  have q2 := (blk_far (p := ⟨w.heap.size, 0, none⟩) (show v4.heap.size ≠ w.heap.size by omega) (sl1 w2.heap.size 3)).trans q2
  have q3 := (blk_far (p := ⟨w.heap.size, 0, none⟩) (show w2.heap.size ≠ w.heap.size by omega) (sl1 w2.heap.size 3)).trans q3
  have q0 := blk_set q0 0 (sl1 w2.heap.size 3)
  have hbw := hbw.setCell (p := ⟨w.heap.size, 0, none⟩) (Nat.le_refl _) (sl1 w2.heap.size 3)
  generalize w8.setCell ⟨w.heap.size, 0, none⟩ (sl1 w2.heap.size 3) = w9 at q0 q1 q2 q3 hbw ⊢
  simp only [List.setIfInBounds_toArray, List.set_cons_zero] at q0
  have r0 := blk_cell q0 0
  simp at r0
  refine bodyPost_ret (v := .agg #[sl1 w2.heap.size 3]) (by simp [results, Tryz.results17, go_sem, r0]) rfl ⟨w2.heap.size, rfl, ?_, hbw⟩
  refine ⟨[⟨1, 1, 0, 2, some ⟨v2.heap.size, 0, none⟩, 3, [⟨0, 0, 0, 0⟩, ⟨1, 5, 0, 0⟩, ⟨2, 0, 1, 3⟩]⟩, ⟨1, 2, 2, 0, some ⟨v4.heap.size, 0, none⟩, 1, [⟨2, 0, 1, 4⟩]⟩, ⟨1, 3, 3, 1, none, 0, []⟩], rfl, rfl, blk_slAt NodeE.enc (fr := (0, 0)) (e := 51) q3 _ rfl, fun n hn => ?_, fun n hn => ?_⟩
  · simp only [List.mem_cons, List.not_mem_nil, or_false] at hn
    rcases hn with rfl | rfl | rfl
    · exact blk_slAt ValE.enc (fr := (0, 0)) (e := 46) q1 _ rfl
    · exact blk_slAt ValE.enc (fr := (0, 0)) (e := 46) q2 _ rfl
    · exact SlAt.nil
  · simp only [List.mem_cons, List.not_mem_nil, or_false] at hn
    rcases hn with rfl | rfl | rfl <;> simp [maxLen]
theorem exValid {g : Nat} {u : World} (h : exN g u) : Calls Tryz.prog 18 #[.agg #[sl1 g 3]] u fun r u' => r = .returned (.bool true) ∧ Below u.heap.size u u' := by
  obtain ⟨ns, h1, h2, H⟩ := h
  have := validS_any (some ⟨g, 0, none⟩) 3 ns u H (by omega) (fun n hn => by have := ex_flds h1 n hn; omega)
  rw [h2, h1, x_valid] at this
  exact this
theorem exReach {g : Nat} {u : World} {RA : Option Addr} {rc : Nat} (a : IDE) (q : List IDE) (hq : ReachL xL [a] q) (h : exN g u) (hR : SlAt IDE.cells 2 u RA [a]) : Calls Tryz.prog 20 #[.agg #[sl1 g 3], .slice RA 1 rc] u fun r u' => ∃ A c, r = .returned (.slice A q.length c) ∧ SlAt IDE.cells 2 u' A q ∧ Below u.heap.size u u' := by
  obtain ⟨ns, h1, h2, H⟩ := h
  have := reach_any (some ⟨g, 0, none⟩) 3 ns RA rc [a] u H hR (by omega) (fun n hn => by have := ex_flds h1 n hn; omega) (by simp)
  rw [h2, h1] at this
  refine this.mono ?_
  rintro r u' ⟨q', A, c, hq', rfl, ho, hb⟩
  obtain rfl := hq'.unique hq
  exact ⟨A, c, rfl, (ho.at_ IDE.enc).2.2, hb⟩
theorem exSame {a b : List IDE} {A B : Option Addr} {c d : Nat} {u : World} (ha : SlAt IDE.cells 2 u A a) (hb : SlAt IDE.cells 2 u B b) (h : a = b) (hl : a.length ≤ 1000) : Calls Tryz.prog 19 #[.slice A a.length c, .slice B b.length d] u fun r u' => r = .returned (.bool true) ∧ Below u.heap.size u u' := by
  refine (sameIDs_any A c a B d b u ha hb (by omega) (by rw [← h]; omega)).mono ?_
  rintro r u' ⟨q, rfl, hq, hb⟩
  exact ⟨by rw [hq.2 h], hb⟩
theorem exFmt {g : Nat} {u : World} (hT : Tab10 u) (h : exN g u) : Calls Tryz.prog 22 #[.agg #[sl1 g 3]] u fun r u' => ∃ A c, r = .returned (.slice A 3 c) ∧ SlAt strC 1 u' A [x1, x2, x3] ∧ Below u.heap.size u u' := by
  obtain ⟨ns, h1, h2, H⟩ := h
  have := format_any (some ⟨g, 0, none⟩) 3 ns u hT H (by omega) (fun n hn => by have := ex_flds h1 n hn; omega)
  rw [h2, h1] at this
  refine this.mono ?_
  rintro r u' ⟨o, A, c, ho, rfl, hown, hb⟩
  have e := ho.out
  rw [x_lines] at e
  subst e
  exact ⟨A, c, rfl, (hown.at_ strC.enc).2.2, hb⟩
theorem exLines {A B : Option Addr} {c d : Nat} {u : World} {l : List (List UInt8)} (ha : SlAt strC 1 u A l) (hb : SlAt strC 1 u B l) (hl : l.length ≤ 1000) : Calls Tryz.prog 21 #[.slice A l.length c, .slice B l.length d] u fun r u' => r = .returned (.bool true) ∧ Below u.heap.size u u' := by
  have := sameLines_any A c l B d l u ha hb (by omega) (by omega)
  rw [decide_eq_true rfl] at this
  exact this
end Go.Proofs.YtjegncmkebbdfaaGreatDoor

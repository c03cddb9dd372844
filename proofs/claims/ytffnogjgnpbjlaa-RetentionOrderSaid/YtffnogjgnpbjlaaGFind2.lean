/-
  Contracts of the functions of this seat that each theorem names: what a call returns, and that it writes nothing that was there before. The conditions stand in each theorem.
-/
import Derived.Test.YtffnogjgnpbjlaaGFind
set_option linter.unusedSimpArgs false
set_option linter.unusedVariables false
namespace Go.Proofs.Ytffnogjgnpbjlaa
open Go.RowKit
attribute [local go_sem ↓] run_eql_id run_neq_id
attribute [local go_sem] Instr.makeFunc
theorem valT : ElemT Try.prog 54 62 4 32 := ElemT.mk' (z := .agg #[.int .i64 0, .int .i64 0, .int .i64 0, .int .i64 0]) Try.underlying54 (by kernel_rfl) rfl
/-- What Clone gives: a slice of the call's own. -/
def CloneP {α : Type} (f : α → List Value) (s : Nat) (e : TypeId) (l : List α) (w : World) (r : Ending) (w' : World) : Prop := ∃ (A : Option Addr) (c : Nat), r = .returned (.slice A l.length c) ∧ l.length ≤ c ∧ c ≤ maxLen ∧ Own f s e w.heap.size w' (.slice A l.length c) l ∧ Below w.heap.size w w'
set_option maxHeartbeats 1000000 in
theorem cloneV_any (A : Option Addr) (c : Nat) (l : List ValE) (w : World) (hs : SlAt ValE.cells 4 w A l) (hl : l.length ≤ 1000000000) :
    Calls Try.prog 77 #[.slice A l.length c] w (CloneP ValE.cells 4 62 l w) := by
  have hq := fun (W : World) n c => Lib.run_eql_slice_nil (P := Try.prog) W 54 62 A n c 0 0 Try.underlying54
  cases A with
  | none =>
    simp only [Option.isNone_none] at hq
    have hl0 : l = [] := by
      by_cases h : l = []
      · exact h
      · obtain ⟨b, off, e, _⟩ := hs h; cases e
    subst hl0
    go_enter Try.func77, Try.ntmps77
    go_wp2_with fail
    go_ret
    exact ⟨none, 0, rfl, by simp, by simp, Own.nil, below_of⟩
  | some a =>
    simp only [Option.isNone_some] at hq
    go_enter Try.func77, Try.ntmps77
    go_wp2_with (at_builtin; refine wpList_appE rfl (.tmp 5) (.tmp 6) rfl ValE.enc valT _ _ l rfl rfl hs (by omega) (by unfold maxLen; omega) ?_; intro A' c' w1 ho hm hb)
    go_ret
    obtain ⟨h1, h2, h3⟩ := ho.at_ ValE.enc
    exact ⟨A', c', rfl, h2, hm, ho, hb⟩
set_option maxHeartbeats 1000000 in
theorem cloneI_any (A : Option Addr) (c : Nat) (l : List IDE) (w : World) (hs : SlAt IDE.cells 2 w A l) (hl : l.length ≤ 1000000000) :
    Calls Try.prog 46 #[.slice A l.length c] w (CloneP IDE.cells 2 46 l w) := by
  have hq := fun (W : World) n c => Lib.run_eql_slice_nil (P := Try.prog) W 25 46 A n c 0 0 Try.underlying25
  cases A with
  | none =>
    simp only [Option.isNone_none] at hq
    have hl0 : l = [] := by
      by_cases h : l = []
      · exact h
      · obtain ⟨b, off, e, _⟩ := hs h; cases e
    subst hl0
    go_enter Try.func46, Try.ntmps46
    go_wp2_with fail
    go_ret
    exact ⟨none, 0, rfl, by simp, by simp, Own.nil, below_of⟩
  | some a =>
    simp only [Option.isNone_some] at hq
    go_enter Try.func46, Try.ntmps46
    go_wp2_with (at_builtin; refine wpList_appE rfl (.tmp 5) (.tmp 6) rfl IDE.enc idT _ _ l rfl rfl hs (by omega) (by unfold maxLen; omega) ?_; intro A' c' w1 ho hm hb)
    go_ret
    obtain ⟨h1, h2, h3⟩ := ho.at_ IDE.enc
    exact ⟨A', c', rfl, h2, hm, ho, hb⟩
/-! A result node in its cells (block w.heap.size + 1 + 1): W the world ahead of the store, n the node. -/
def CopyPost (n : NodeE) (w : World) (r : Ending) (w' : World) : Prop := ∃ A c, r = .returned (.agg #[.int .i64 n.iDMachine, .int .i64 n.iDSerial, .int .i64 n.kind, .int .i64 n.clas, .slice A n.fields.length c]) ∧ n.fields.length ≤ c ∧ c ≤ maxLen ∧ Own ValE.cells 4 62 w.heap.size w' (.slice A n.fields.length c) n.fields ∧ Below w.heap.size w w'
set_option maxRecDepth 100000 in
set_option maxHeartbeats 4000000 in
theorem copyNode_any (n : NodeE) (w : World) (hf : SlAt ValE.cells 4 w n.A n.fields) (hl : n.fields.length ≤ 1000000000) : Calls Try.prog 64 #[n.v] w (CopyPost n w) := by
  have HF : ∀ u [Later w u], SlAt ValE.cells 4 u n.A n.fields := fun u i => hf.below i.below
  go_enter Try.func64, Try.ntmps64
  go_upto_region 1 with fail
  refine wp_name ?_
  intro w0 hw0
  obtain ⟨B0, B1, l0⟩ := box2 hw0
  have hz0 : w.heap.size + 1 < w0.heap.size := by rw [← hw0]; simp
  clear hw0
  go_wp2_with (go_at_call 77; refine (cloneV_any n.A n.c n.fields _ (HF _) hl).mono ?_; rintro r w1 ⟨A1, c1, rfl, h1, h2, h3, hb1⟩; have l1 := later hb1)
  have hbW : Below w.heap.size w w1 := below_of
  have hn0 : (Value.slice A1 n.fields.length c1).ownBlock ≠ some w.heap.size := fun e => absurd (World.ownsRow.lt h3 _ e).1 (by omega)
  have hn1 : (Value.slice A1 n.fields.length c1).ownBlock ≠ some (w.heap.size + 1) := fun e => absurd (World.ownsRow.lt h3 _ e).1 (by omega)
  have b0 : (w1.setCell ⟨w.heap.size, 4, none⟩ (.slice A1 n.fields.length c1)).heap[w.heap.size + 1]? = _ := (blk_far (p := ⟨w.heap.size, 4, none⟩) (show w.heap.size + 1 ≠ w.heap.size by omega) _).trans (B1 w1).1
  have b5 := blk_set (blk_set (blk_set (blk_set (blk_set b0 0 (.int .i64 n.iDMachine)) 1 (.int .i64 n.iDSerial)) 2 (.int .i64 n.kind)) 3 (.int .i64 n.clas)) 4 (.slice A1 n.fields.length c1)
  have r0 := blk_cell b5 0
  have r1 := blk_cell b5 1
  have r2 := blk_cell b5 2
  have r3 := blk_cell b5 3
  have r4 := blk_cell b5 4
  simp at r0 r1 r2 r3 r4
  refine bodyPost_ret (v := .agg #[.int .i64 n.iDMachine, .int .i64 n.iDSerial, .int .i64 n.kind, .int .i64 n.clas, .slice A1 n.fields.length c1]) (by simp [results, Try.results64, go_sem, r0, r1, r2, r3, r4]) rfl ⟨A1, c1, rfl, h1, h2, ?_, (by repeat (first | with_reducible exact hbW | with_reducible exact Below.refl _ _ | (with_reducible refine Below.drew ?_) | (with_reducible refine below_drewN ?_ _) | (with_reducible refine Below.alloc ?_ ?_ _; rotate_left; (first | omega | (simp <;> omega))) | (with_reducible refine Below.setCell ?_ ?_ _; rotate_left; (first | omega | (simp <;> omega)))))⟩
  exact ((((((h3.far (p := ⟨w.heap.size, 4, none⟩) hn0 _).far (p := ⟨w.heap.size + 1, 0, none⟩) hn1 _).far (p := ⟨w.heap.size + 1, 1, none⟩) hn1 _).far (p := ⟨w.heap.size + 1, 2, none⟩) hn1 _).far (p := ⟨w.heap.size + 1, 3, none⟩) hn1 _).far (p := ⟨w.heap.size + 1, 4, none⟩) hn1 _).mono (by omega)
set_option maxHeartbeats 1000000 in
theorem find1_any (W : World) (bo : Nat) (x : IDE) (HB : Boxed W bo x.arr 46) (n : NodeE) (w : World) [Later W w] : Calls Try.prog 63 #[n.v, .pointer (some ⟨bo, 0, none⟩)] w fun r w' => r = .returned (.bool (decide (n.id = x))) ∧ Below w.heap.size w w' := by
  have hq : ideq n.iDMachine n.iDSerial x.machine x.serial = decide (n.id = x) := @ideq_iff n.id x
  go_enter Try.func63, Try.ntmps63
  go_wp2_with fail
  go_ret
  exact ⟨ret_bool (by simp [hq]), below_of⟩
set_option maxRecDepth 100000 in
set_option maxHeartbeats 2000000 in
theorem idxNode_any (W : World) (bo : Nat) (x : IDE) (HB : Boxed W bo x.arr 46) (A : Option Addr) (c : Nat) (xs : List NodeE) (w : World) [kW : Later W w] (hs : NodesAt w A xs) (hl : xs.length ≤ 1000000000) :
    Calls Try.prog 62 #[.slice A xs.length c, .func (.func 63) #[] #[.pointer (some ⟨bo, 0, none⟩)]] w fun r w' => r = .returned (.int .i64 (idxOf (fun n : NodeE => decide (n.id = x)) xs)) ∧ Below w.heap.size w w' := by
  have Hs := hs.later
  have hl' : xs.length ≤ 9223372036854775807 := by omega
  obtain ⟨p, hp⟩ : ∃ p, p = (fun n : NodeE => decide (n.id = x)) := ⟨_, rfl⟩
  rw [← hp]
  have HCx : ∀ u [Later W u] (n : NodeE), Calls Try.prog 63 #[n.v, .pointer (some ⟨bo, 0, none⟩)] u fun r w' => r = .returned (.bool (p n)) ∧ Below u.heap.size u w' := fun u i n => by rw [hp]; exact find1_any W bo x HB n u
  clear hp
  go_enter Try.func62, Try.ntmps62
  go_wp2_with fail
  go_loopw [5, 8] (fun _ i wr => ∃ k : Nat, k ≤ xs.length ∧ i = .int .i64 k ∧ NoneTo p xs k ∧ Below w.heap.size w wr) (fun _ i _ => xs.length - (intOf i).toNat)
  case atStart => exact ⟨0, by omega, rfl, NoneTo.zero, Below.refl _ _⟩
  case round =>
    obtain ⟨k, hk, rfl, hno, hbr⟩ := hrel
    have lr := later hbr
    have Hno := hide hno
    clear hno
    by_cases hlt : k < xs.length
    · obtain ⟨g, o, n, rfl, hx, C1, -⟩ := (Hs wr).get hlt
      have Hx := hide hx
      clear hx
      have HCn := fun u (i : Later W u) => HCx u n
      clear HCx
      cases hp : p n <;> simp only [hp] at HCn
      · go_wp2_with (go_at_call 63; refine (HCn _ inferInstance).mono ?_; rintro r w1 ⟨rfl, hb1⟩; have l1 := later hb1)
        go_roundw
        case rel => exact ⟨k + 1, by omega, by go_num, Hno.out.succ Hx.out hp, below_of⟩
        case measure => simp [intOf]; omega
      · have HI := hide (idxOf_hit Hx.out hp Hno.out)
        go_wp2_with (go_at_call 63; refine (HCn _ inferInstance).mono ?_; rintro r w1 ⟨rfl, hb1⟩; have l1 := later hb1)
        go_ret
        exact ⟨ret_int HI.out.symm, below_of⟩
    · have hk' : k = xs.length := by omega
      subst hk'
      have HI := hide (idxOf_miss Hno.out)
      go_wp2_with fail
      go_ret
      exact ⟨ret_int HI.out.symm, below_of⟩
theorem first_idx {l : List NodeE} {x : IDE} {k : Nat} {n : NodeE} (hn : l[k]? = some n) (hp : decide (n.id = x) = true) (hno : NoneTo (fun n : NodeE => decide (n.id = x)) l k) : firstN (conL l) x = some n.con := firstN_hit hn (by simpa using hp) fun j m hj hm => by have := hno j m hj hm; simpa using this
theorem first_no {l : List NodeE} {x : IDE} (hno : NoneTo (fun n : NodeE => decide (n.id = x)) l l.length) : firstN (conL l) x = none := firstN_miss fun j m hj hm => by have := hno j m hj hm; simpa using this
set_option maxRecDepth 100000 in
set_option maxHeartbeats 4000000 in
theorem find_any (A : Option Addr) (c : Nat) (l : List NodeE) (x : IDE) (w : World) (H : NodesAt w A l) (hl : l.length ≤ 1000000000) (hfl : ∀ n ∈ l, n.fields.length ≤ 1000000000) : Calls Try.prog 43 #[.agg #[.slice A l.length c], x.v] w (FindPost (conL l) x w) := by
  have HL := H.later
  have hl' : l.length ≤ 9223372036854775807 := by omega
  go_enter Try.func43, Try.ntmps43
  go_upto_region 1 with fail
  refine wp_name ?_
  intro w0 hw0
  obtain ⟨B0, B1, B2, l0⟩ := box3 hw0
  have hz0 : w0.heap.size = w.heap.size + 1 + 1 + 1 := by rw [← hw0]; simp
  clear hw0
  have HI : ∀ u [Later w0 u], Calls Try.prog 62 #[.slice A l.length c, .func (.func 63) #[] #[.pointer (some ⟨w.heap.size + 1, 0, none⟩)]] u fun r w' => r = .returned (.int .i64 (idxOf (fun n : NodeE => decide (n.id = x)) l)) ∧ Below u.heap.size u w' := fun u i => by haveI := (l0 w).trans i; exact idxNode_any w0 _ x B1 A c l u (HL u) hl
  rcases idxOf_cases (fun n : NodeE => decide (n.id = x)) l with ⟨hi, hno⟩ | ⟨k, n, hi, hx, hp, hno⟩
  · have he := hide (first_no hno)
    rw [hi] at HI
    clear hi hno
    go_wp2_with (go_at_call 62; refine (HI _).mono ?_; rintro r w1 ⟨rfl, hb1⟩; have l1 := later hb1)
    have hbW : Below w.heap.size w w1 := below_of
    have b5 := blk_set (blk_set (blk_set (blk_set (blk_set (B2 w1).1 0 (.int .i64 ((NodeE.mk 0 0 0 0 none 0 [])).iDMachine)) 1 (.int .i64 ((NodeE.mk 0 0 0 0 none 0 [])).iDSerial)) 2 (.int .i64 ((NodeE.mk 0 0 0 0 none 0 [])).kind)) 3 (.int .i64 ((NodeE.mk 0 0 0 0 none 0 [])).clas)) 4 (.slice ((NodeE.mk 0 0 0 0 none 0 [])).A ((NodeE.mk 0 0 0 0 none 0 [])).fields.length ((NodeE.mk 0 0 0 0 none 0 [])).c)
    have r0 := blk_cell b5 0
    have r1 := blk_cell b5 1
    have r2 := blk_cell b5 2
    have r3 := blk_cell b5 3
    have r4 := blk_cell b5 4
    simp at r0 r1 r2 r3 r4
    have hbf : Below w.heap.size w (((((w1.setCell ⟨w.heap.size + 1 + 1, 0, none⟩ (.int .i64 ((NodeE.mk 0 0 0 0 none 0 [])).iDMachine)).setCell ⟨w.heap.size + 1 + 1, 1, none⟩ (.int .i64 ((NodeE.mk 0 0 0 0 none 0 [])).iDSerial)).setCell ⟨w.heap.size + 1 + 1, 2, none⟩ (.int .i64 ((NodeE.mk 0 0 0 0 none 0 [])).kind)).setCell ⟨w.heap.size + 1 + 1, 3, none⟩ (.int .i64 ((NodeE.mk 0 0 0 0 none 0 [])).clas)).setCell ⟨w.heap.size + 1 + 1, 4, none⟩ (.slice ((NodeE.mk 0 0 0 0 none 0 [])).A ((NodeE.mk 0 0 0 0 none 0 [])).fields.length ((NodeE.mk 0 0 0 0 none 0 [])).c)) := (by repeat (first | with_reducible exact hbW | with_reducible exact Below.refl _ _ | (with_reducible refine Below.drew ?_) | (with_reducible refine below_drewN ?_ _) | (with_reducible refine Below.alloc ?_ ?_ _; rotate_left; (first | omega | (simp <;> omega))) | (with_reducible refine Below.setCell ?_ ?_ _; rotate_left; (first | omega | (simp <;> omega)))))
    refine bodyPost_ret (v := .tuple #[((NodeE.mk 0 0 0 0 none 0 [])).v, .bool false]) (by simp [results, Try.results43, go_sem, r0, r1, r2, r3, r4]) rfl ⟨(NodeE.mk 0 0 0 0 none 0 []), ?_, ?_, ?_, (Nat.le_refl 0), (Nat.zero_le _), hbf⟩
    · rw [he.out]; rfl
    · exact hide (by rw [he.out]; rfl)
    · exact Own.nil
  · have he := hide (first_idx hx hp hno)
    rw [hi] at HI
    have hk : k < l.length := (List.getElem?_eq_some_iff.1 hx).1
    have hmem := List.mem_of_getElem? hx
    have hkc : decide ((k : Int) < 0) = false := by simp
    obtain ⟨b1, o1, n', rfl, hx', C1, F1, hf1, hf2⟩ := H.get hk
    rw [hx] at hx'
    injection hx' with hx'
    subst hx'
    have hki : (k : Int) < (l.length : Int) := by omega
    clear hi hno hx hp
    go_wp2_with (first | (go_at_call 64; refine (copyNode_any n _ (F1 _) (hfl n hmem)).mono ?_; rintro r w2 ⟨A2, c2, rfl, h1, h2, h3, hb2⟩; have l2 := later hb2) | (go_at_call 62; refine (HI _).mono ?_; rintro r w1 ⟨rfl, hb1⟩; have l1 := later hb1))
    have hz1 : w0.heap.size ≤ w1.heap.size := hb1.size
    have hn1 : (Value.slice A2 n.fields.length c2).ownBlock ≠ some (w.heap.size + 1 + 1) := fun e => absurd (World.ownsRow.lt h3 _ e).1 (by omega)
    have hF := ((((((h3.far (p := ⟨w.heap.size + 1 + 1, 0, none⟩) hn1 (.int .i64 n.iDMachine)).far (p := ⟨w.heap.size + 1 + 1, 1, none⟩) hn1 (.int .i64 n.iDSerial)).far (p := ⟨w.heap.size + 1 + 1, 2, none⟩) hn1 (.int .i64 n.kind)).far (p := ⟨w.heap.size + 1 + 1, 3, none⟩) hn1 (.int .i64 n.clas)).far (p := ⟨w.heap.size + 1 + 1, 4, none⟩) hn1 (.slice A2 n.fields.length c2)).mono (show w.heap.size ≤ w1.heap.size by omega))
    have hbW : Below w.heap.size w w2 := below_of
    have b5 := blk_set (blk_set (blk_set (blk_set (blk_set (B2 w2).1 0 (.int .i64 ((NodeE.mk n.iDMachine n.iDSerial n.kind n.clas A2 c2 n.fields)).iDMachine)) 1 (.int .i64 ((NodeE.mk n.iDMachine n.iDSerial n.kind n.clas A2 c2 n.fields)).iDSerial)) 2 (.int .i64 ((NodeE.mk n.iDMachine n.iDSerial n.kind n.clas A2 c2 n.fields)).kind)) 3 (.int .i64 ((NodeE.mk n.iDMachine n.iDSerial n.kind n.clas A2 c2 n.fields)).clas)) 4 (.slice ((NodeE.mk n.iDMachine n.iDSerial n.kind n.clas A2 c2 n.fields)).A ((NodeE.mk n.iDMachine n.iDSerial n.kind n.clas A2 c2 n.fields)).fields.length ((NodeE.mk n.iDMachine n.iDSerial n.kind n.clas A2 c2 n.fields)).c)
    have r0 := blk_cell b5 0
    have r1 := blk_cell b5 1
    have r2 := blk_cell b5 2
    have r3 := blk_cell b5 3
    have r4 := blk_cell b5 4
    simp at r0 r1 r2 r3 r4
    have hbf : Below w.heap.size w (((((w2.setCell ⟨w.heap.size + 1 + 1, 0, none⟩ (.int .i64 ((NodeE.mk n.iDMachine n.iDSerial n.kind n.clas A2 c2 n.fields)).iDMachine)).setCell ⟨w.heap.size + 1 + 1, 1, none⟩ (.int .i64 ((NodeE.mk n.iDMachine n.iDSerial n.kind n.clas A2 c2 n.fields)).iDSerial)).setCell ⟨w.heap.size + 1 + 1, 2, none⟩ (.int .i64 ((NodeE.mk n.iDMachine n.iDSerial n.kind n.clas A2 c2 n.fields)).kind)).setCell ⟨w.heap.size + 1 + 1, 3, none⟩ (.int .i64 ((NodeE.mk n.iDMachine n.iDSerial n.kind n.clas A2 c2 n.fields)).clas)).setCell ⟨w.heap.size + 1 + 1, 4, none⟩ (.slice ((NodeE.mk n.iDMachine n.iDSerial n.kind n.clas A2 c2 n.fields)).A ((NodeE.mk n.iDMachine n.iDSerial n.kind n.clas A2 c2 n.fields)).fields.length ((NodeE.mk n.iDMachine n.iDSerial n.kind n.clas A2 c2 n.fields)).c)) := (by repeat (first | with_reducible exact hbW | with_reducible exact Below.refl _ _ | (with_reducible refine Below.drew ?_) | (with_reducible refine below_drewN ?_ _) | (with_reducible refine Below.alloc ?_ ?_ _; rotate_left; (first | omega | (simp <;> omega))) | (with_reducible refine Below.setCell ?_ ?_ _; rotate_left; (first | omega | (simp <;> omega)))))
    refine bodyPost_ret (v := .tuple #[((NodeE.mk n.iDMachine n.iDSerial n.kind n.clas A2 c2 n.fields)).v, .bool true]) (by simp [results, Try.results43, go_sem, r0, r1, r2, r3, r4]) rfl ⟨(NodeE.mk n.iDMachine n.iDSerial n.kind n.clas A2 c2 n.fields), ?_, ?_, ?_, h1, h2, hbf⟩
    · rw [he.out]; rfl
    · exact hide (by rw [he.out]; rfl)
    · exact hF
end Go.Proofs.Ytffnogjgnpbjlaa

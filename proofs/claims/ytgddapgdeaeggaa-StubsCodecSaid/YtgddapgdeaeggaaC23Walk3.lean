/-
  Contracts of the functions of this seat that each theorem names: what a call returns, and that it writes nothing that was there before. The conditions stand in each theorem.
-/
import Derived.Test.YtgddapgdeaeggaaC23Walk2
import Derived.Test.YtgddapgdeaeggaaTabWalk
namespace Go.Proofs.Ytgddapgdeaeggaa
open Go.RowKit
set_option maxHeartbeats 800000 in
theorem run_eql_IDE (x y : IDE) (w : World) : (binOp .eql 34 x.v y.v).run Try.prog w = .ok (.bool (IDE.beq x y)) w := by
  have ht : Try.prog.underlying 34 = some (.struct (Try.prog.fieldsOf 34)) := by kernel_rfl
  have hp : Try.prog.stoodInHeld 34 = false := by kernel_rfl
  have hu := Try.underlying34
  rw [run_eql_struct, run_equalIn_struct w 9999 34 _ _ ht hp]
  obtain ⟨fs, hfs⟩ : ∃ fs, Try.prog.fieldsOf 34 = fs := ⟨_, rfl⟩
  rw [hfs] at ht ⊢
  rw [hu] at ht
  have ht2 := TypeDesc.struct.inj (Option.some.inj ht)
  subst ht2
  simp only [Op.eqFields, ne_eq]
  simp [go_sem, IDE.beq]
  clear hfs hu ht hp
  by_cases h0 : x.machine = y.machine
  rotate_left
  · rw [if_neg h0]
    simp [beq_eq_false_iff_ne.2 h0]
  rw [if_pos h0]
  have e0 := beq_iff_eq.2 h0
  by_cases h1 : x.serial = y.serial
  rotate_left
  · rw [if_neg h1]
    simp [beq_eq_false_iff_ne.2 h1]
  rw [if_pos h1]
  have e1 := beq_iff_eq.2 h1
  simp only [e0, e1]
  rfl
set_option maxHeartbeats 800000 in
theorem run_neq_IDE (x y : IDE) (w : World) : (binOp .neq 34 x.v y.v).run Try.prog w = .ok (.bool (!IDE.beq x y)) w := by
  have ht : Try.prog.underlying 34 = some (.struct (Try.prog.fieldsOf 34)) := by kernel_rfl
  have hp : Try.prog.stoodInHeld 34 = false := by kernel_rfl
  have hu := Try.underlying34
  rw [run_neq_struct, run_equalIn_struct w 9999 34 _ _ ht hp]
  obtain ⟨fs, hfs⟩ : ∃ fs, Try.prog.fieldsOf 34 = fs := ⟨_, rfl⟩
  rw [hfs] at ht ⊢
  rw [hu] at ht
  have ht2 := TypeDesc.struct.inj (Option.some.inj ht)
  subst ht2
  simp only [Op.eqFields, ne_eq]
  simp [go_sem, IDE.beq]
  clear hfs hu ht hp
  by_cases h0 : x.machine = y.machine
  rotate_left
  · rw [if_neg h0]
    simp [beq_eq_false_iff_ne.2 h0]
  rw [if_pos h0]
  have e0 := beq_iff_eq.2 h0
  by_cases h1 : x.serial = y.serial
  rotate_left
  · rw [if_neg h1]
    simp [beq_eq_false_iff_ne.2 h1]
  rw [if_pos h1]
  have e1 := beq_iff_eq.2 h1
  simp only [e0, e1]
  rfl
def ideq (a b c d : Int) : Bool := a == c && b == d
theorem run_eql_id (a b c d : Int) (w : World) : (binOp .eql 34 (.agg #[.int .i64 a, .int .i64 b]) (.agg #[.int .i64 c, .int .i64 d])).run Try.prog w = .ok (.bool (ideq a b c d)) w := run_eql_IDE ⟨a, b⟩ ⟨c, d⟩ w
theorem run_neq_id (a b c d : Int) (w : World) : (binOp .neq 34 (.agg #[.int .i64 a, .int .i64 b]) (.agg #[.int .i64 c, .int .i64 d])).run Try.prog w = .ok (.bool (!ideq a b c d)) w := run_neq_IDE ⟨a, b⟩ ⟨c, d⟩ w
theorem ideq_iff {x : StubE} {id : IDE} : ideq x.iDMachine x.iDSerial id.machine id.serial = decide (idE x = id) := by
  rw [Bool.eq_iff_iff, decide_eq_true_eq, IDE.ext_iff]
  simp [ideq, idE]
attribute [local go_sem ↓] run_eql_id
set_option maxRecDepth 100000 in
set_option maxHeartbeats 4000000 in
theorem byID_any (p g : Nat) (l : List StubE) (id : IDE) (w : World) (h : TabAt w p g l) (hid : (l.map idE).Nodup) : Calls Try.prog 19 #[.pointer (some ⟨p, 0, none⟩), id.v] w (FindPost w (findK idE l id)) := by
  have hp := h.cell
  have hT := h.later
  go_enter Try.func19, Try.ntmps19
  go_upto_region 1 with fail
  refine wp_name ?_
  intro w0 hw0
  obtain ⟨B0, B1, l0⟩ := box2 hw0
  have hz0 : w.heap.size + 1 + 1 ≤ w0.heap.size := by rw [← hw0]; simp
  clear hw0
  go_wp2_with (at_range; refine wpList_rangeL rfl _ _ rfl Try.underlying61 (by rfl) (hT _).2 ?_; intro w1 hrg0 hb1 hz1)
  go_frame
  go_loopw [7] (fun _ wr => ∃ idxs, RangeL KeyE.vv StubE.vv keyE wr g w0.heap.size l idxs ∧ (∀ i ∈ idxs, ∀ x, l[i]? = some x → idE x ≠ id) ∧ Below w0.heap.size w0 wr) (fun _ wr => l.length - (wr.iterSeen w0.heap.size).size)
  case atStart => exact ⟨[], hrg0, by simp, hb1⟩
  case round =>
    clear hrg0 hb1 hz1
    obtain ⟨idxs, hrg, hno, hbr⟩ := hrel
    have lr := later hbr
    have hzr := hbr.size
    go_wp2_with (at_next; refine wpList_nextL rfl _ rfl (by rfl) hrg ?_ ?_)
    · intro hall
      have Hf := hide (show findK idE l id = none from findK_none fun x hx => by
        obtain ⟨i, hi⟩ := List.getElem?_of_mem hx
        exact hno i (hall i (List.getElem?_eq_some_iff.1 hi).1) x hi)
      clear hno hall
      have hbw : Below w.heap.size w wr := below_of
      go_wp2_with fail
      refine bodyPost_ret (v := .tuple #[zeroE.v, .bool false]) (by simp [results, Try.results19, go_sem, zeroE, (B1 wr).2]) rfl ⟨by rw [Hf.out]; rfl, (by repeat (first | with_reducible exact hbw | with_reducible exact Below.refl _ _ | (with_reducible refine Below.drew ?_) | (with_reducible refine below_drewN ?_ _) | (with_reducible refine Below.alloc ?_ ?_ _; rotate_left; (first | omega | (simp <;> omega))) | (with_reducible refine Below.setCell ?_ ?_ _; rotate_left; (first | omega | (simp <;> omega)))))⟩
    · intro i x w2 hx hi hrg2 hen hgr hsz hb2
      have hb2' : Below w0.heap.size w0 w2 := hbr.trans (hb2 _ (by omega))
      have l2 := later hb2'
      have Hno := hide hno
      have Hx := hide hx
      have hen' := hen.out
      clear hno hx hgr hsz

      go_upto_region 4 with fail
      refine wp_name ?_
      intro w3 hw3
      obtain ⟨B3, l3⟩ := box1 hw3
      clear hw3
      have hbw : Below w.heap.size w w3 := below_of
      by_cases hq : idE x = id
      · have Hf := hide (show findK idE l id = some x from findK_at hid Hx.out hq)
        have hbq : ideq x.iDMachine x.iDSerial id.machine id.serial = true := by rw [ideq_iff]; simp [hq]
        clear Hno hq
        go_wp2_with fail
        refine bodyPost_ret (v := .tuple #[x.v, .bool true]) (by simp [results, Try.results19, go_sem, (B1 w3).2]) rfl ⟨by rw [Hf.out]; rfl, (by repeat (first | with_reducible exact hbw | with_reducible exact Below.refl _ _ | (with_reducible refine Below.drew ?_) | (with_reducible refine below_drewN ?_ _) | (with_reducible refine Below.alloc ?_ ?_ _; rotate_left; (first | omega | (simp <;> omega))) | (with_reducible refine Below.setCell ?_ ?_ _; rotate_left; (first | omega | (simp <;> omega)))))⟩
      · have hbq : ideq x.iDMachine x.iDSerial id.machine id.serial = false := by rw [ideq_iff]; simp [hq]
        have Hq := hide hq
        clear hq
        go_wp2_with fail
        go_roundw
        case rel => exact ⟨idxs ++ [i], hrg2.later _, (fun j hj y hy => by
          rcases List.mem_append.1 hj with hj | hj
          · exact Hno.out j hj y hy
          · rw [List.mem_singleton] at hj; subst hj
            rw [Hx.out] at hy; injection hy with hy; subst hy; exact Hq.out), below_of⟩
        case measure =>
          have hr3 := hrg2.later w3
          rw [hrg.seen, hr3.seen, List.length_append]
          have := hr3.len
          rw [List.length_append] at this
          simp only [List.length_singleton] at this ⊢
          omega
end Go.Proofs.Ytgddapgdeaeggaa

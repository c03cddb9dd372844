/-
  Contracts of the functions of this seat that each theorem names: what a call returns, and that it writes nothing that was there before. The conditions stand in each theorem.
-/
import Derived.Test.YtgddapgdeaeggaaC23Walk4
namespace Go.Proofs.Ytgddapgdeaeggaa
open Go.RowKit
def clearE (e : StubE) : StubE := { e with touched := false }
theorem gro_step {g : Nat} {w wr w2 : World} (h : Gro g w wr) (hb : Below w.heap.size wr w2) : Gro g w w2 :=
  ⟨⟨hb.os.trans h.out.os, hb.tape.trans h.out.tape, hb.output.trans h.out.output, Nat.le_trans h.out.size hb.size, fun k hk hne => (hb.block k hk).trans (h.out.block k hk hne)⟩⟩
set_option maxRecDepth 100000 in
set_option maxHeartbeats 4000000 in
theorem clear_any (p g : Nat) (l : List StubE) (w : World) (h : TabAt w p g l) : Calls Try.prog 20 #[.pointer (some ⟨p, 0, none⟩)] w fun r w' => r = .returned (.tuple #[]) ∧ TabAt w' p g (l.map clearE) ∧ w.grownBy w' (some g) := by
  have hp := h.cell
  have hT := h.later
  have hpg := h.ne
  obtain ⟨hlg, hlp⟩ : g < w.heap.size ∧ p < w.heap.size := ⟨h.2.lt, blk_lt h.1⟩
  have gp := Gro.cell (g := g) (b := w) (a := ⟨p, 0, none⟩) hpg (hp w)
  go_enter Try.func20, Try.ntmps20
  go_wp2_with (at_range; refine wpList_rangeL rfl _ _ rfl Try.underlying61 (by rfl) (hT _).2 ?_; intro w1 hrg0 hb1 hz1)
  go_frame
  go_loopw [2, 3] (fun _ _ wr => ∃ (idxs : List Nat) (cur : List StubE), RangeL KeyE.vv StubE.vv keyE wr g w.heap.size cur idxs ∧ cur.length = l.length ∧ (∀ i x, l[i]? = some x → cur[i]? = some (if i ∈ idxs then clearE x else x)) ∧ Gro g w wr) (fun _ _ wr => l.length - (wr.iterSeen w.heap.size).size)
  case atStart => exact ⟨[], l, hrg0, rfl, by simp, ⟨grown_below hb1 _⟩⟩
  case round =>
    clear hrg0 hb1 hz1
    obtain ⟨idxs, cur, hrg, hlen, hcur, hgr⟩ := hrel
    have gr : ∀ b [Gro g b w], Gro g b wr := gro hgr.out
    have hzr := hgr.out.size
    have Hlen := hide hlen
    have Hcur := hide hcur
    clear hlen hcur
    go_wp2_with (at_next; refine wpList_nextL rfl _ rfl (by rfl) hrg ?_ ?_)
    · intro hall
      have Hall := hide hall
      clear hall
      go_wp2_with fail
      go_end0
      refine ⟨rfl, ⟨(hgr.out.block p hlp (fun e => hpg (by injection e))).trans h.1, ?_⟩, hgr.out⟩
      have hm : cur = l.map clearE := by
        apply List.ext_getElem?
        intro i
        rw [List.getElem?_map]
        cases hi : l[i]? with
        | none => exact List.getElem?_eq_none (by rw [Hlen.out]; exact List.getElem?_eq_none_iff.1 hi)
        | some x =>
          have hil := (List.getElem?_eq_some_iff.1 hi).1
          rw [Hcur.out i x hi, if_pos (Hall.out i (by rw [Hlen.out]; exact hil))]; rfl
      rw [← hm]; exact hrg.mapL
    · intro i x w2 hx hi hrg2 hen hgr2 hsz hb2
      have hg2 : Gro g w w2 := gro_step hgr (hb2 _ (Nat.le_refl _))
      have g2 : ∀ b [Gro g b w], Gro g b w2 := gro hg2.out
      have hz2 := hg2.out.size
      have hen' := hen.out
      have hxl : l[i]? = some x := by
        have hil : i < l.length := by rw [← Hlen.out]; exact (List.getElem?_eq_some_iff.1 hx).1
        have := Hcur.out i _ (List.getElem?_eq_getElem hil)
        rw [if_neg hi, hx] at this
        injection this with this
        rw [this]; exact List.getElem?_eq_getElem hil
      obtain ⟨o, ho1, ho2, -⟩ := RangeL.put keyL Try.underlying61 hrg2 (j := i) (v := clearE x) hx rfl
      have hup : ∀ (u : World) [Later w2 u], (Instr.mapUpdate 61 (.map (some g)) (.agg #[.int .i64 (keyE x).owner, .int .u64 (keyE x).number]) (.agg #[.int .i64 x.owner, .int .u64 x.number, .int .i64 x.iDMachine, .int .i64 x.iDSerial, .int .i64 x.clas, .int .i64 x.lastUse, .int .i64 x.distance, .bool false, .bool x.weak, .bool x.dead, .int .i64 x.lockMachine, .int .i64 x.lockSerial])).run Try.prog u = .ok () (putAt u g o) := ho1
      have Hx := hide hx
      have Hxl := hide hxl
      clear hx hxl hgr2 hsz ho1
      go_upto_region 4 with fail
      refine wp_name ?_
      intro w3 hw3
      obtain ⟨BK, BE, l3⟩ := box2 hw3
      have hz3 : w2.heap.size ≤ w3.heap.size := by rw [← hw3]; simp; omega
      clear hw3
      have gK := boxed_gro BK (g := g) (by omega)
      have gE := boxed_gro BE (g := g) (by omega)
      have g3 : ∀ b [Gro g b w2], Gro g b w3 := gro_below (show Below w2.heap.size w2 w3 from below_of)
      go_region_held3 (fun w' => ∀ b [Gro g b w3], Gro g b w') ((intro b _; infer_instance)) (fail)
      all_goals go_wp2_with fail
      go_roundw
      case rel =>
        refine ⟨idxs ++ [i], cur.set i (clearE x), ho2 _, by rw [List.length_set]; exact Hlen.out, fun j y hy => ?_, inferInstance⟩
        by_cases hij : i = j
        · subst hij
          rw [Hxl.out] at hy; injection hy with hy; subst hy
          rw [List.getElem?_set_self (List.getElem?_eq_some_iff.1 Hx.out).1, if_pos (by simp)]
        · rw [List.getElem?_set_ne hij, Hcur.out j y hy]
          have : (j ∈ idxs ++ [i]) ↔ j ∈ idxs := by rw [List.mem_append, List.mem_singleton]; exact ⟨fun h => h.elim id (fun e => absurd e.symm hij), .inl⟩
          simp only [this]
      case measure =>
        have key : ∀ u [Later w2 u], ((putAt u g o).iterSeen w.heap.size).size = idxs.length + 1 := fun u _ => by
          have := (ho2 u).seen
          simpa using this
        have := (ho2 w3).len
        rw [List.length_append, List.length_set, Hlen.out] at this
        simp only [List.length_singleton] at this
        rw [hrg.seen, key]
        omega
end Go.Proofs.Ytgddapgdeaeggaa

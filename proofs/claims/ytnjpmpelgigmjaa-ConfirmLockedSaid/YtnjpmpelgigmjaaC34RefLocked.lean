/-
  Contracts of the functions of this seat that each theorem names: what a call returns, and that it writes nothing that was there before. The conditions stand in each theorem.
-/
import Derived.Test.YtnjpmpelgigmjaaC34Put
namespace Go.Proofs.Ytnjpmpelgigmjaa
open Go.RowKit
def lockS (e : StubE) : TraceE := ⟨e.lockMachine, e.lockSerial⟩
def lockN (e : ScionE) : TraceE := ⟨e.lockMachine, e.lockSerial⟩
def locksOf (S : List StubE) (N : List ScionE) : List TraceE := S.map lockS ++ N.map lockN
/-- What Locked gives: a slice of its own, that holds the strictly increasing list of the locks. -/
def LockedPost (w : World) (ls : List TraceE) (r : Ending) (w' : World) : Prop := ∃ q A c, Hid (q = lockedL ls) ∧ r = .returned (.slice A q.length c) ∧ Own TraceE.cells 2 26 w.heap.size w' (.slice A q.length c) q ∧ Below w.heap.size w w'
theorem locks_takeS {S : List StubE} {k : Nat} {x : StubE} (hx : S[k]? = some x) : lockedL ((S.map lockS).take (k + 1)) = putT (lockedL ((S.map lockS).take k)) (lockS x) := locked_take (by simp [hx])
theorem locks_takeN {S : List StubE} {N : List ScionE} {k : Nat} {x : ScionE} (hx : N[k]? = some x) : lockedL (S.map lockS ++ (N.map lockN).take (k + 1)) = putT (lockedL (S.map lockS ++ (N.map lockN).take k)) (lockN x) := by
  have h : (N.map lockN)[k]? = some (lockN x) := by simp [hx]
  rw [take_snoc_get h]
  unfold lockedL
  rw [← List.append_assoc, List.foldl_append]; rfl
set_option maxRecDepth 100000 in
set_option maxHeartbeats 2000000 in
theorem refLocked_any (sA : Option Addr) (sC : Nat) (stubs : List StubE) (nA : Option Addr) (nC : Nat) (scions : List ScionE) (w : World) (hs : SlAt StubE.cells 12 w sA stubs) (hn : SlAt ScionE.cells 12 w nA scions) (hsl : stubs.length ≤ 100000000) (hnl : scions.length ≤ 100000000) :
    Calls Try.prog 27 #[.slice sA stubs.length sC, .slice nA scions.length nC] w (LockedPost w (locksOf stubs scions)) := by
  have HS : ∀ u [Later w u], SlAt StubE.cells 12 u sA stubs := fun u i => hs.below i.below
  have HN : ∀ u [Later w u], SlAt ScionE.cells 12 u nA scions := fun u i => hn.below i.below
  go_enter Try.func27, Try.ntmps27
  go_wp2_with fail
  go_loopw [5, 6] (fun ov iv wr => ∃ (k : Nat) (q : List TraceE) (Aq : Option Addr) (cq : Nat), k ≤ stubs.length ∧ iv = .int .i64 k ∧ ov = .slice Aq q.length cq ∧ Hid (q = lockedL ((stubs.map lockS).take k)) ∧ Own TraceE.cells 2 26 w.heap.size wr (.slice Aq q.length cq) q ∧ Below w.heap.size w wr) (fun _ iv _ => stubs.length - (intOf iv).toNat)
  case atStart => exact ⟨0, [], _, 0, by omega, rfl, rfl, hide rfl, Own.empty (Nat.le_refl _), (by repeat (first | with_reducible exact Below.refl _ _ | (with_reducible refine Below.drew ?_) | (with_reducible refine below_drewN ?_ _) | (with_reducible refine Below.alloc ?_ ?_ _; rotate_left; (first | omega | (simp <;> omega))) | (with_reducible refine Below.setCell ?_ ?_ _; rotate_left; (first | omega | (simp <;> omega)))))⟩
  case round =>
    obtain ⟨k, q, Aq, cq, hk, rfl, rfl, Hq, hoq, hbr⟩ := hrel
    have lr := later hbr
    have hql : q.length ≤ k := by
      have := locked_len ((stubs.map lockS).take k)
      rw [← Hq.out] at this
      simp only [List.length_take, List.length_map] at this; omega
    by_cases hlt : k < stubs.length
    · obtain ⟨b, off, x, rfl, hbk, hx, hcl⟩ := (HS wr).at_ hlt
      obtain ⟨-, -, -, -, -, -, -, -, -, -, f10, f11⟩ := StubE.facts hcl
      have F10 := Later.cell f10
      have F11 := Later.cell f11
      have Hx := hide hx
      have hqs := (hoq.at_ TraceE.enc).2.2
      have hqc := (hoq.at_ TraceE.enc).2.1
      have hqm : cq ≤ maxLen := by
        obtain ⟨A', c', e, _, hm, _⟩ := hoq.slAt TraceE.enc
        injection e with e1 e2 e3
        rw [e3]; exact hm
      have hzr := hbr.size
      clear f10 f11 hcl hx
      go_wp2_with (go_at_call 47; refine (putT_any Aq cq q (lockS x) _ hqs (by omega) hqc hqm).mono ?_)
      rintro r w2 ⟨q2, A2, c2, Hq2, rfl, ho2, hb2⟩
      have l2 := later hb2
      go_wp2_with fail
      go_roundw
      case rel => exact ⟨k + 1, q2, A2, c2, by omega, by go_num, rfl, hide (by rw [Hq2.out, Hq.out]; exact (locks_takeS Hx.out).symm), ho2 _ hzr hoq, hbr.trans (hb2.mono hzr)⟩
      case measure => simp [intOf]; omega
    · have hk' : k = stubs.length := by omega
      subst hk'
      have Hq0 := hide (show q = lockedL (stubs.map lockS ++ (scions.map lockN).take 0) by rw [Hq.out, List.take_of_length_le (by simp)]; simp)
      clear Hq
      go_wp2_with fail
      go_loopw [5, 7] (fun ov iv wr => ∃ (k : Nat) (q : List TraceE) (Aq : Option Addr) (cq : Nat), k ≤ scions.length ∧ iv = .int .i64 k ∧ ov = .slice Aq q.length cq ∧ Hid (q = lockedL (stubs.map lockS ++ (scions.map lockN).take k)) ∧ Own TraceE.cells 2 26 w.heap.size wr (.slice Aq q.length cq) q ∧ Below w.heap.size w wr) (fun _ iv _ => scions.length - (intOf iv).toNat)
      case atStart => exact ⟨0, q, Aq, cq, by omega, rfl, rfl, Hq0, hoq, hbr⟩
      case round =>
        clear lr
        clear hoq hbr Hq0 hql
        obtain ⟨k, q, Aq, cq, hk, rfl, rfl, Hq, hoq, hbr⟩ := hrel
        have lr := later hbr
        have hql : q.length ≤ stubs.length + k := by
          have := locked_len (stubs.map lockS ++ (scions.map lockN).take k)
          rw [← Hq.out] at this
          simp only [List.length_append, List.length_take, List.length_map] at this; omega
        by_cases hlt : k < scions.length
        · obtain ⟨b, off, x, rfl, hbk, hx, hcl⟩ := (HN wr).at_ hlt
          obtain ⟨-, -, -, -, -, -, -, -, -, -, f10, f11⟩ := ScionE.facts hcl
          have F10 := Later.cell f10
          have F11 := Later.cell f11
          have Hx := hide hx
          have hqs := (hoq.at_ TraceE.enc).2.2
          have hqc := (hoq.at_ TraceE.enc).2.1
          have hqm : cq ≤ maxLen := by
            obtain ⟨A', c', e, _, hm, _⟩ := hoq.slAt TraceE.enc
            injection e with e1 e2 e3
            rw [e3]; exact hm
          have hzr := hbr.size
          clear f10 f11 hcl hx
          go_wp2_with (go_at_call 47; refine (putT_any Aq cq q (lockN x) _ hqs (by omega) hqc hqm).mono ?_)
          rintro r w2 ⟨q2, A2, c2, Hq2, rfl, ho2, hb2⟩
          have l2 := later hb2
          go_wp2_with fail
          go_roundw
          case rel => exact ⟨k + 1, q2, A2, c2, by omega, by go_num, rfl, hide (by rw [Hq2.out, Hq.out]; exact (locks_takeN Hx.out).symm), ho2 _ hzr hoq, hbr.trans (hb2.mono hzr)⟩
          case measure => simp [intOf]; omega
        · have hk' : k = scions.length := by omega
          subst hk'
          have Hq0 := hide (show q = lockedL (locksOf stubs scions) by rw [Hq.out]; unfold locksOf; rw [List.take_of_length_le (by simp)])
          clear Hq
          go_wp2_with fail
          go_ret
          exact ⟨q, Aq, cq, Hq0, rfl, hoq, hbr⟩
end Go.Proofs.Ytnjpmpelgigmjaa

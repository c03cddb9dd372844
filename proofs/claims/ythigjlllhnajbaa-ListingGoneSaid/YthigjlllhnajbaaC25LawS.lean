/-
  Contracts of the functions of this seat that each theorem names: what a call returns, and that it writes nothing that was there before. The conditions stand in each theorem.
-/
import Derived.Test.YthigjlllhnajbaaC25Step9
import Derived.Test.YthigjlllhnajbaaC25Safe
import Derived.Test.YthigjlllhnajbaaC25Awake
namespace Go.Proofs.Ythigjlllhnajbaa
open Go.RowKit
@[ext] structure OpE where
  kind : Int
  n : Int
def OpE.cells (e : OpE) : List Value := [.int .u8 e.kind, .int .u8 e.n]
theorem OpE.cells_length (e : OpE) : e.cells.length = 2 := rfl
abbrev OpE.v (e : OpE) : Value := .agg #[.int .u8 e.kind, .int .u8 e.n]
abbrev OpE.arr (e : OpE) : Array Value := #[.int .u8 e.kind, .int .u8 e.n]
theorem OpE.facts {e : OpE} {w : World} {b off k : Nat} (h : ∀ j u, e.cells[j]? = some u → w.cell? ⟨b, off + k * 2 + j, none⟩ = some u) : w.cell? ⟨b, off + k * 2, none⟩ = some (.int .u8 e.kind) ∧ w.cell? ⟨b, off + k * 2 + 1, none⟩ = some (.int .u8 e.n) :=
  ⟨by simpa using h 0 _ rfl, by simpa using h 1 _ rfl⟩
/-- The element lies there, in each later world. -/
abbrev OpE.Has (w : World) (b off k : Nat) (e : OpE) : Prop := ∀ (u : World) [Later w u], u.cell? ⟨b, off + k * 2, none⟩ = some (.int .u8 e.kind) ∧ u.cell? ⟨b, off + k * 2 + 1, none⟩ = some (.int .u8 e.n)
theorem OpE.has {e : OpE} {w : World} {b off k : Nat} (hb : b < w.heap.size) (h : ∀ j u, e.cells[j]? = some u → w.cell? ⟨b, off + k * 2 + j, none⟩ = some u) : OpE.Has w b off k e := fun u i => OpE.facts fun j v hv => (i.below.cell (p := ⟨b, _, none⟩) hb).trans (h j v hv)
theorem OpE.get {w : World} {A : Option Addr} {l : List OpE} (h : SlAt OpE.cells 2 w A l) {k : Nat} (hk : k < l.length) : ∃ b off x, A = some ⟨b, off, none⟩ ∧ l[k]? = some x ∧ OpE.Has w b off k x := by
  obtain ⟨b, off, x, hA, hb, hx, hc⟩ := h.at_ hk
  exact ⟨b, off, x, hA, hx, OpE.has hb hc⟩
def OpE.beq (x y : OpE) : Bool := x.kind == y.kind && x.n == y.n
theorem OpE.beq_iff {x y : OpE} : x.beq y = true ↔ x = y := by
  cases x; cases y; simp [OpE.beq, Bool.and_eq_true, and_assoc]
theorem OpE.enc : Enc OpE.cells 2 := ⟨fun _ => rfl, fun x u hu => by simp only [OpE.cells, List.mem_cons, List.not_mem_nil, or_false] at hu; rcases hu with rfl | rfl <;> rfl, by decide⟩
set_option maxRecDepth 100000 in
set_option maxHeartbeats 4000000 in
theorem lawSafe_any (A : Option Addr) (c : Nat) (ops : List OpE) (w : World) (hs : SlAt OpE.cells 2 w A ops) (hwf : ∀ x ∈ ops, 0 ≤ x.kind ∧ 0 ≤ x.n ∧ x.n < 256) (hl : ops.length ≤ 9223372036854775807) :
    Calls Try.prog 9 #[.slice A ops.length c] w fun r w' => r = .returned (.bool true) ∧ Below w.heap.size w w' := by
  have HS : ∀ u [Later w u], SlAt OpE.cells 2 u A ops := fun u i => hs.below i.below
  go_enter Try.func9, Try.ntmps9
  go_wp2_with (go_at_call 11; refine (awake_any _).mono ?_)
  rintro r w1 ⟨rfl, hb1⟩
  have l1 := later hb1
  by_cases hn : 60 < ops.length
  · have hn' : (60 : Int) < (ops.length : Int) := by omega
    go_wp2_with (go_at_call 11; refine (awake_any _).mono ?_)
    rintro r w2 ⟨rfl, hb2⟩
    have l2 := later hb2
    go_wp2_with fail
    go_ret
    exact ⟨rfl, below_of⟩
  have hn' : decide ((60 : Int) < (ops.length : Int)) = false := by simp; omega
  have hn60 : ops.length ≤ 60 := by omega
  go_upto_region 4 with fail
  refine wp_name ?_
  intro w2 hw2
  have bp : w2.heap[w1.heap.size]? = some (.cells #[.slice none 0 0, .slice none 0 0, .slice none 0 0, .slice none 0 0, .int .i64 0, .int .i64 0, .int .i64 0, .int .i64 0, .int .i64 0, .int .i64 0, .int .u64 0, .slice none 0 0] tPa (0, 0)) := by rw [← hw2]; exact heap_alloc_new _ _
  have hb12 : Below w1.heap.size w1 w2 := by rw [← hw2]; exact (by repeat (first | with_reducible exact Below.refl _ _ | (with_reducible refine Below.drew ?_) | (with_reducible refine below_drewN ?_ _) | (with_reducible refine Below.alloc ?_ ?_ _; rotate_left; (first | omega | (simp <;> omega))) | (with_reducible refine Below.setCell ?_ ?_ _; rotate_left; (first | omega | (simp <;> omega)))))
  have l2 := later hb12
  clear hw2
  have P2 : PairAt w1.heap.size w1.heap.size w2 (.slice none 0 0) (.slice none 0 0) (.slice none 0 0) (.slice none 0 0) (.slice none 0 0) ⟨[], [], [], [], 0, 0, 0, 0, 0, 0, 0, []⟩ [] :=
    ⟨Nat.le_refl _, bp, ⟨Own.nil, Own.nil, Own.nil, Own.nil, Own.nil, (fun L hL => by cases hL), Apart.nil, Apart.nil, Apart.nil, rfl⟩⟩
  have hz2 : w1.heap.size < w2.heap.size := blk_lt bp
  clear bp
  go_wp2_with fail
  go_loopw [18] (fun iv wr => ∃ (k : Nat) (sv nv cv ov lv : Value) (st : PairS) (ls : List LA), k ≤ ops.length ∧ iv = .int .i64 k ∧ PairAt w1.heap.size w1.heap.size wr sv nv cv ov lv st ls ∧ PI st ∧ PLe st k ∧ Below w1.heap.size w1 wr) (fun iv _ => ops.length - (intOf iv).toNat)
  case atStart => exact ⟨0, _, _, _, _, _, _, _, by omega, rfl, P2, PI.start, PLe.start, hb12⟩
  case round =>
    obtain ⟨k, sv, nv, cv, ov, lv, st, ls, hk, rfl, P, hpi, hle, hbr⟩ := hrel
    have lr := later hbr
    have hzr := hbr.size
    by_cases hlt : k < ops.length
    · obtain ⟨b1, o1, x, rfl, hx, C1⟩ := OpE.get (HS wr) hlt
      obtain ⟨h1, h2, h3⟩ := hwf x (List.mem_of_getElem? hx)
      obtain ⟨kn, hkn⟩ : ∃ kn : Nat, x.kind = kn := ⟨x.kind.toNat, by omega⟩
      obtain ⟨m, hm⟩ : ∃ m : Nat, x.n = m := ⟨x.n.toNat, by omega⟩
      have hm256 : m < 256 := by omega
      clear hx h1 h2 h3
      go_upto_region 7 with fail
      refine wp_name ?_
      intro w3 hw3
      have hb3 : Below wr.heap.size wr w3 := by rw [← hw3]; exact (by repeat (first | with_reducible exact Below.refl _ _ | (with_reducible refine Below.drew ?_) | (with_reducible refine below_drewN ?_ _) | (with_reducible refine Below.alloc ?_ ?_ _; rotate_left; (first | omega | (simp <;> omega))) | (with_reducible refine Below.setCell ?_ ?_ _; rotate_left; (first | omega | (simp <;> omega)))))
      obtain ⟨BX, l3⟩ := box1 hw3
      clear hw3
      have P3 := P.below hb3
      have hz3 : w1.heap.size ≤ w3.heap.size := Nat.le_trans hzr hb3.size
      have hS := step_any (k := kn) (n := m) w3 P3 hz3 hm256 (hle.mono (by omega)) hpi
      have hpi' := hpi.step kn m
      have hle' := hle.step kn m
      obtain ⟨st', hst'⟩ : ∃ st', st' = st.step kn m := ⟨_, rfl⟩
      rw [← hst'] at hS hpi' hle'
      clear hst' hpi hle P
      go_wp2_with (go_at_call 23; refine hS.mono ?_)
      rintro r w4 ⟨rfl, ⟨sv', nv', cv', ov', lv', ls', P4⟩, hb4⟩
      have hb14 : Below w1.heap.size w1 w4 := (hbr.trans (hb3.mono hzr)).trans hb4
      have l4 := later hb14
      have l44 : Later w4 w4 := Later.refl
      have hlen := hpi'.len
      have hV : ∀ u [Later w4 u], Calls Try.prog 27 #[.pointer (some ⟨w1.heap.size, 0, none⟩)] u fun r w' => r = .returned (.bool true) ∧ Below u.heap.size u w' := fun u i => by
        have := safe_any u (P4.below i.below) (by have := hle'.toOwner; omega) (by omega) (Nat.le_trans hle'.stubs (by omega)) (Nat.le_trans hle'.toClient (by omega)) (Nat.le_trans hle'.toOwner (by omega)) (Nat.le_trans hle'.scions (by omega))
        rw [hpi'.covers] at this
        exact this
      go_wp2_with (go_at_call 27; refine (hV _).mono ?_; rintro r w5 ⟨rfl, hb5⟩; have l5 := later hb5)
      go_roundw
      case rel => exact ⟨k + 1, _, _, _, _, _, _, _, by omega, by go_num, P4.later _, hpi', hle', below_of⟩
      case measure => simp [intOf]; omega
    · have hk' : k = ops.length := by omega
      subst hk'
      go_wp2_with fail
      go_ret
      exact ⟨rfl, below_of⟩
end Go.Proofs.Ythigjlllhnajbaa

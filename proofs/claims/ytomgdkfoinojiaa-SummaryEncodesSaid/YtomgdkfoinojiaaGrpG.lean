/-
  Small texts of this seat, put into one. Conditions stand in each theorem.
-/
import Derived.Test.YtomgdkfoinojiaaWireRead2
import Derived.Test.YtomgdkfoinojiaaWireTry
import Derived.Laws.ByValue
set_option linter.unusedSimpArgs false
set_option linter.unusedVariables false
namespace Go.Proofs.Ytomgdkfoinojiaa
open Go.RowKit
attribute [local go_sem] Instr.makeFunc
/-- A reader: its box g, the bytes that are left and its error; the bytes lie in wb, ahead of the box. -/
structure RD (wb : World) (g : Nat) (w : World) (st : List Int × Int) : Prop where
  lw : Below wb.heap.size wb w
  gw : wb.heap.size ≤ g
  s : ∃ (A : Option Addr) (c : Nat), SlAt U8.cells 1 wb A st.1 ∧ st.1.length ≤ c ∧ c ≤ maxLen ∧ w.heap[g]? = some (.cells #[.slice A st.1.length c, .int .i64 st.2] 135 (0, 0))
  by_ : Bytes st.1
theorem restU_bytes {l : List Int} (h : Bytes l) : Bytes (restU l) := by
  cases l with
  | nil => exact h
  | cons k t => exact h.tail.drop _
/-- Uint: the number, and what becomes of the reader. -/
def rdU (st : List Int × Int) : Int × (List Int × Int) := if st.2 = 0 then (if okU st.1 then (numU st.1, (restU st.1, 0)) else (0, ([], 11))) else (0, st)
/-- A read's post: the value, the reader behind it; nothing else has changed. -/
def RPost (v : Value) (wb : World) (g : Nat) (st : List Int × Int) (w : World) (r : Ending) (w' : World) : Prop := r = .returned v ∧ RD wb g w' st ∧ Only (fun k => k = g) w w'
/-- Posts that the walk's simp does not look into. -/
def TOk (Q : World → Prop) (g : Nat) (r : Ending) (w' : World) : Prop := r = .returned (.bool true) ∧ ∃ w1, Q w1 ∧ Only (fun k => k = g) w1 w' ∧ w'.heap[g]? = w1.heap[g]?
def TBad (Q : World → Prop) (g : Nat) (x : Int) (r : Ending) (w' : World) : Prop := r = .returned (.bool false) ∧ ∃ w1, Q w1 ∧ Only (fun k => k = g) w1 w' ∧ w'.heap[g]? = some (.cells #[.slice none 0 0, .int .i64 x] 135 (0, 0))
def TNot (w : World) (r : Ending) (w' : World) : Prop := r = .returned (.bool false) ∧ Below w.heap.size w w'
def UOk (wb : World) (g bn : Nat) (l : List Int) (w : World) (w' : World) : Prop := Only (fun k => k = g ∨ k = bn) w w' ∧ w'.heap[bn]? = some (.cells #[.int .u64 (numU l)] 38 (0, 0)) ∧
    ∃ (A : Option Addr) (c : Nat), SlAt U8.cells 1 wb A (restU l) ∧ (restU l).length ≤ c ∧ c ≤ maxLen ∧ w'.heap[g]? = some (.cells #[.slice A (restU l).length c, .int .i64 0] 135 (0, 0))
set_option maxRecDepth 100000 in
set_option maxHeartbeats 4000000 in
theorem uint_any (wb : World) (g : Nat) (st : List Int × Int) (w : World) (R : RD wb g w st) :
    Calls Try.prog 50 #[.pointer (some ⟨g, 0, none⟩)] w (RPost (.int .u64 (rdU st).1) wb g (rdU st).2 w) := by
  obtain ⟨l, e⟩ := st
  obtain ⟨A, c, hA, hlc, hcm, hg⟩ := R.s
  have hby := R.by_
  have hgw := R.gw
  simp only at hA hlc hg hby
  have lw : Later wb w := ⟨R.lw⟩
  have hgl := blk_lt hg
  have hws := R.lw.size
  obtain ⟨n, st', hr⟩ : ∃ n st', rdU (l, e) = (n, st') := ⟨_, _, rfl⟩
  rw [hr]
  go_enter Try.func50, Try.ntmps50
  go_upto_region 2 with fail
  refine wp_name ?_
  intro w1 hw1
  have l1 := later_name' hw1 (inferInstance : Later w _)
  have hb1 : w1.heap[w.heap.size]? = some (.cells #[.pointer (some ⟨g, 0, none⟩)] 103 (0, 0)) := (by rw [← hw1]; simp only [heap_alloc_if, World.size_alloc]; repeat (first | rw [if_pos trivial] | rw [if_neg (by omega)] | rw [if_pos (by omega)]); try rfl)
  have hn1 : w1.heap[w.heap.size + 1]? = some (.cells #[.int .u64 0] 38 (0, 0)) := (by rw [← hw1]; simp only [heap_alloc_if, World.size_alloc]; repeat (first | rw [if_pos trivial] | rw [if_neg (by omega)] | rw [if_pos (by omega)]); try rfl)
  have hbel : Below w.heap.size w w1 := below_of
  have hg1 := (hbel.block g hgl).trans hg
  clear hw1
  have BG := boxed hg1
  have BR := boxed hb1
  have BN := boxed hn1
  by_cases he : e = 0
  rotate_left
  · rw [show rdU (l, e) = (0, (l, e)) by simp [rdU, he]] at hr
    obtain ⟨rfl, rfl⟩ := Prod.mk.inj hr
    clear hr
    go_wp2_with (go_at_call 83; refine (show Calls _ _ _ _ (TNot w1) from try_not _ e he hg1).mono ?_)
    intro r w2 h2
    obtain ⟨rfl, hb2⟩ := h2
    have l2 := later hb2
    go_wp2_with fail
    go_ret
    exact ⟨rfl, ⟨(below_of : Below wb.heap.size wb w2), hgw, ⟨A, c, hA, hlc, hcm, (hb2.block g (blk_lt hg1)).trans hg1⟩, hby⟩, Only.of_below below_of⟩
  subst he
  cases ho : okU l
  · rw [show rdU (l, 0) = (0, ([], 11)) by simp [rdU, ho]] at hr
    obtain ⟨rfl, rfl⟩ := Prod.mk.inj hr
    clear hr
    have HC := uint1_bad wb g w.heap.size (w.heap.size + 1) A c l 0 w1 hA hlc hcm hby ho hg1 hb1 hn1 hgw (by omega) (by omega) (by omega) (by omega)
    have HT : Calls Try.prog _ _ w1 (TBad (Below w1.heap.size w1) g 11) := tryU_bad (Q := Below w1.heap.size w1) (by decide) _ _ hg1 HC (fun w' hb => ⟨_, (hb.block g (blk_lt hg1)).trans hg1⟩)
    go_wp2_with (go_at_call 83; refine HT.mono ?_)
    intro r w3 h3
    obtain ⟨rfl, w2, hb2, ho3, hg3⟩ := h3
    have hon : Only (fun k => k = g) w w3 := (Only.of_below hbel).trans (Only.trans (Only.mono (s := fun k => k = g) (Only.of_below hb2) (fun k _ h => h)) ho3)
    go_wp2_with fail
    go_ret
    exact ⟨rfl, ⟨(hon.below (B := wb.heap.size) (fun k e => by subst e; exact hgw) hws |> R.lw.trans), hgw, ⟨none, 0, SlAt.nil, by simp, by simp, hg3⟩, fun x hx => by cases hx⟩, hon⟩
  · rw [show rdU (l, 0) = (numU l, (restU l, 0)) by simp [rdU, ho]] at hr
    obtain ⟨rfl, rfl⟩ := Prod.mk.inj hr
    clear hr
    have HC := uint1_ok wb g w.heap.size (w.heap.size + 1) A c l 0 w1 hA hlc hcm hby ho hg1 hb1 hn1 hgw (by omega) (by omega) (by omega) (by omega)
    have HT : Calls Try.prog _ _ w1 (TOk (UOk wb g (w.heap.size + 1) l w1) g) := tryU_ok (Q := UOk wb g (w.heap.size + 1) l w1) _ _ hg1 HC (fun w' h => by obtain ⟨_, _, A', c', _, _, _, h⟩ := h; exact ⟨_, h⟩)
    go_wp2_with (go_at_call 83; refine HT.mono ?_)
    intro r w3 h3
    obtain ⟨rfl, w2, ⟨hon2, hbn2, A', c', hA', hlc', hcm', hg2⟩, ho3, hg3⟩ := h3
    have hon1 : Only (fun k => k = g ∨ k = w.heap.size + 1) w1 w3 := hon2.trans (ho3.mono fun k _ h => .inl h)
    have hon : Only (fun k => k = g) w w3 := (Only.of_below hbel).trans' hon1 (fun k hk h => by rcases h with h | h; exact h; omega)
    have BN3 := boxed ((ho3.block _ (blk_lt hbn2) (by omega)).trans hbn2)
    go_wp2_with fail
    go_ret
    exact ⟨rfl, ⟨(hon.below (B := wb.heap.size) (fun k e => by subst e; exact hgw) hws |> R.lw.trans), hgw, ⟨A', c', hA', hlc', hcm', hg3.trans hg2⟩, restU_bytes hby⟩, hon⟩
end Go.Proofs.Ytomgdkfoinojiaa

namespace Go.Proofs.Ytomgdkfoinojiaa
open Go.RowKit
attribute [local go_sem] Instr.makeFunc
def unzig (n : Int) : Int := if n % 2 = 0 then n / 2 else -(n / 2) - 1
theorem unzig_zig {n : Int} : unzig (zig n) = n := by unfold unzig zig; split <;> split <;> omega
theorem zig_unzig {n : Int} (h : 0 ≤ n) : zig (unzig n) = n := by unfold unzig zig; split <;> split <;> omega
theorem unzig_range {n : Int} (h0 : 0 ≤ n) (h1 : n < 18446744073709551616) : -9223372036854775808 ≤ unzig n ∧ unzig n < 9223372036854775808 := by unfold unzig; split <;> omega
theorem rdU_range {st : List Int × Int} (h : Bytes st.1) : 0 ≤ (rdU st).1 ∧ (rdU st).1 < 18446744073709551616 := by
  unfold rdU
  split
  · split
    · rename_i ho; exact numU_range h ho
    · simp
  · simp
theorem bits_xor_i64_nat (a : Nat) (b : Int) (hb : b = 0 ∨ b = -1) (ha : a < 9223372036854775808) : bits .xor .i64 (a : Int) b = if b = 0 then (a : Int) else -(a : Int) - 1 := by
  have h1 : (BitVec.ofInt 64 (a : Int)).toNat = a := by
    rw [BitVec.ofInt_natCast, BitVec.toNat_ofNat]; exact Nat.mod_eq_of_lt (by omega)
  show IntKind.i64.wrap ((BitVec.ofInt 64 (a : Int) ^^^ BitVec.ofInt 64 b).toNat : Int) = _
  rcases hb with rfl | rfl
  · rw [show BitVec.ofInt 64 0 = 0#64 from rfl, BitVec.xor_zero, h1, IntKind.wrap_i64, if_pos rfl]
    omega
  · rw [show BitVec.ofInt 64 (-1) = BitVec.allOnes 64 from rfl, BitVec.xor_allOnes, BitVec.toNat_not, h1, IntKind.wrap_i64, if_neg (by omega)]
    omega
theorem unzig_bits {n : Int} (h0 : 0 ≤ n) (h1 : n < 18446744073709551616) : bits BinOp.xor IntKind.i64 (n / 2) (wrap64 (-wrap64 (bits BinOp.and IntKind.u64 n 1))) = unzig n := by
  obtain ⟨m, rfl⟩ : ∃ m : Nat, n = (m : Int) := ⟨n.toNat, by omega⟩
  have ha : bits BinOp.and IntKind.u64 (m : Int) 1 = ((m % 2 : Nat) : Int) := by
    have := bits_and_u64_nat m 1 (by omega) (by omega)
    rw [Nat.and_one_is_mod] at this
    exact this
  have hd : (m : Int) / 2 = ((m / 2 : Nat) : Int) := by omega
  rw [ha, hd]
  have hw : wrap64 (-wrap64 ((m % 2 : Nat) : Int)) = 0 ∨ wrap64 (-wrap64 ((m % 2 : Nat) : Int)) = -1 := by unfold wrap64; omega
  rw [bits_xor_i64_nat _ _ hw (by omega)]
  unfold unzig
  by_cases hm : (m : Int) % 2 = 0
  · rw [if_pos hm, if_pos (by unfold wrap64; omega)]; omega
  · rw [if_neg hm, if_neg (by unfold wrap64; omega)]; omega
end Go.Proofs.Ytomgdkfoinojiaa

/-
  Contracts of the functions of this seat that each theorem names: what a call returns, and that it writes nothing that was there before. The conditions stand in each theorem.
-/
import Derived.Test.YthigjlllhnajbaaWireRead3
namespace Go.Proofs.Ythigjlllhnajbaa
open Go.RowKit
attribute [local go_sem] Instr.makeFunc
def unzig (n : Int) : Int := if n % 2 = 0 then n / 2 else -(n / 2) - 1
theorem unzig_zig {n : Int} : unzig (zig n) = n := by unfold unzig zig; split <;> split <;> omega
theorem zig_unzig {n : Int} (h : 0 ≤ n) : zig (unzig n) = n := by unfold unzig zig; split <;> split <;> omega
theorem unzig_range {n : Int} (h0 : 0 ≤ n) (h1 : n < 18446744073709551616) : -9223372036854775808 ≤ unzig n ∧ unzig n < 9223372036854775808 := by unfold unzig; split <;> omega
theorem rdU_range {st : List Int × Int} (h : Bytes st.1) : 0 ≤ (rdU st).1 ∧ (rdU st).1 < 18446744073709551616 := by
  unfold rdU
  split
  · split
    · rename_i ho; exact numU_range h ho
    · simp
  · simp
theorem bits_xor_i64_nat (a : Nat) (b : Int) (hb : b = 0 ∨ b = -1) (ha : a < 9223372036854775808) : bits .xor .i64 (a : Int) b = if b = 0 then (a : Int) else -(a : Int) - 1 := by
  have h1 : (BitVec.ofInt 64 (a : Int)).toNat = a := by
    rw [BitVec.ofInt_natCast, BitVec.toNat_ofNat]; exact Nat.mod_eq_of_lt (by omega)
  show IntKind.i64.wrap ((BitVec.ofInt 64 (a : Int) ^^^ BitVec.ofInt 64 b).toNat : Int) = _
  rcases hb with rfl | rfl
  · rw [show BitVec.ofInt 64 0 = 0#64 from rfl, BitVec.xor_zero, h1, IntKind.wrap_i64, if_pos rfl]
    omega
  · rw [show BitVec.ofInt 64 (-1) = BitVec.allOnes 64 from rfl, BitVec.xor_allOnes, BitVec.toNat_not, h1, IntKind.wrap_i64, if_neg (by omega)]
    omega
theorem unzig_bits {n : Int} (h0 : 0 ≤ n) (h1 : n < 18446744073709551616) : bits BinOp.xor IntKind.i64 (n / 2) (wrap64 (-wrap64 (bits BinOp.and IntKind.u64 n 1))) = unzig n := by
  obtain ⟨m, rfl⟩ : ∃ m : Nat, n = (m : Int) := ⟨n.toNat, by omega⟩
  have ha : bits BinOp.and IntKind.u64 (m : Int) 1 = ((m % 2 : Nat) : Int) := by
    have := bits_and_u64_nat m 1 (by omega) (by omega)
    rw [Nat.and_one_is_mod] at this
    exact this
  have hd : (m : Int) / 2 = ((m / 2 : Nat) : Int) := by omega
  rw [ha, hd]
  have hw : wrap64 (-wrap64 ((m % 2 : Nat) : Int)) = 0 ∨ wrap64 (-wrap64 ((m % 2 : Nat) : Int)) = -1 := by unfold wrap64; omega
  rw [bits_xor_i64_nat _ _ hw (by omega)]
  unfold unzig
  by_cases hm : (m : Int) % 2 = 0
  · rw [if_pos hm, if_pos (by unfold wrap64; omega)]; omega
  · rw [if_neg hm, if_neg (by unfold wrap64; omega)]; omega
set_option maxHeartbeats 1000000 in
theorem int_any (wb : World) (g : Nat) (st : List Int × Int) (w : World) (R : RD wb g w st) :
    Calls Try.prog 49 #[.pointer (some ⟨g, 0, none⟩)] w (RPost (.int .i64 (unzig (rdU st).1)) wb g (rdU st).2 w) := by
  have hr := rdU_range R.by_
  have HU := uint_any wb g st w R
  obtain ⟨⟨n, st'⟩, he⟩ : ∃ x, x = rdU st := ⟨_, rfl⟩
  rw [← he] at hr HU ⊢
  simp only at hr
  obtain ⟨h0, h1⟩ := hr
  clear he
  go_enter Try.func49, Try.ntmps49
  go_wp2_with (go_at_call 51; refine HU.mono ?_)
  intro r w1 h
  obtain ⟨rfl, hR, hon⟩ := h
  go_wp2_with fail
  go_ret
  exact ⟨by rw [← unzig_bits h0 h1]; rfl, hR, hon⟩
end Go.Proofs.Ythigjlllhnajbaa

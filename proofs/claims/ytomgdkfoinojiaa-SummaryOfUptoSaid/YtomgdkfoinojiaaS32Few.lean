/-
  Contracts of the functions of this seat that each theorem names: what a call returns, and that it writes nothing that was there before. The conditions stand in each theorem.
-/
import Derived.Test.YtomgdkfoinojiaaS32Walk1
import Derived.Test.YtomgdkfoinojiaaGPlain
namespace Go.Proofs.Ytomgdkfoinojiaa
open Go.RowKit
theorem fieldsN32_take {l : List NodeE} {k : Nat} {n : NodeE} (h : l[k]? = some n) : fieldsN (conL (l.take (k + 1))) = fieldsN (conL (l.take k)) + n.fields.length := by
  unfold fieldsN conL
  rw [take_snoc_get h]
  simp [NodeE.con]
theorem fieldsN32_le (l : List NodeE) (k : Nat) : fieldsN (conL (l.take k)) ≤ fieldsN (conL l) := by
  have h : fieldsN (conL (l.take k ++ l.drop k)) = fieldsN (conL (l.take k)) + fieldsN (conL (l.drop k)) := by unfold fieldsN conL; rw [List.map_append, List.map_append, List.sum_append]
  rw [List.take_append_drop] at h
  omega
set_option maxRecDepth 100000 in
set_option maxHeartbeats 4000000 in
theorem few_any (A : Option Addr) (c : Nat) (l : List NodeE) (RA KA EA : Option Addr) (nr rc nk kc ne ec : Nat) (ep : Int) (w : World) (H : NodesAt w A l) (hsum : nr + nk + ne + l.length + fieldsN (conL l) ≤ 1000000000000000) :
    Calls Try.prog 11 #[.agg #[.slice A l.length c, .slice RA nr rc, .slice KA nk kc, .slice EA ne ec, .int .i64 ep]] w fun r w' => r = .returned (.bool (decide (nr + nk + ne + l.length + fieldsN (conL l) ≤ 100))) ∧ Below w.heap.size w w' := by
  have HL := H.later
  obtain ⟨V, hV⟩ : ∃ V, V = decide (nr + nk + ne + l.length + fieldsN (conL l) ≤ 100) := ⟨_, rfl⟩
  rw [← hV]
  have HV := hide hV
  clear hV
  have hl' : l.length ≤ 9223372036854775807 := by omega
  have h1 : nr ≤ 9223372036854775807 := by omega
  have h2 : nk ≤ 9223372036854775807 := by omega
  have h3 : ne ≤ 9223372036854775807 := by omega
  obtain ⟨S, hS⟩ : ∃ S : Nat, S = nr + nk + ne := ⟨_, rfl⟩
  have hSi : (nr : Int) + (nk : Int) + (ne : Int) = (S : Int) := by omega
  have hw1 : IntKind.i64.wrap ((nr : Int) + (nk : Int)) = (nr : Int) + (nk : Int) := by rw [IntKind.wrap_i64]; omega
  have hw2 : IntKind.i64.wrap ((nr : Int) + (nk : Int) + (ne : Int)) = (nr : Int) + (nk : Int) + (ne : Int) := by rw [IntKind.wrap_i64]; omega
  rw [← hS] at hsum
  have HS := hide hS
  clear hS
  go_enter Try.func11, Try.ntmps11
  go_upto_region 1 with fail
  refine wp_name ?_
  intro w0 hw0
  obtain ⟨B0, l0⟩ := box1 hw0
  clear hw0
  go_wp2_with fail
  go_loopw [3, 21] (fun nv iv wr => ∃ (k n : Nat), k ≤ l.length ∧ iv = .int .i64 k ∧ nv = .int .i64 n ∧ Hid (n = S + k + fieldsN (conL (l.take k))) ∧ n ≤ 1000000000000000 ∧ Below w0.heap.size w0 wr) (fun _ iv _ => l.length - (intOf iv).toNat)
  case atStart => exact ⟨0, S, by omega, rfl, by first | rfl | (congr 1; omega), hide (by simp [fieldsN, conL]), by omega, Below.refl _ _⟩
  case round =>
    obtain ⟨k, n, hk, rfl, rfl, hn, hnb, hbr⟩ := hrel
    have lr := later hbr
    by_cases hlt : k < l.length
    · obtain ⟨b1, o1, nd, rfl, hnd, C1, -, -, -⟩ := (HL wr).get hlt
      have HT := hide (fieldsN32_take hnd)
      have hki : (k : Int) < (l.length : Int) := by omega
      have hle := fieldsN32_le l (k + 1)
      rw [HT.out] at hle
      have hn0 := hn.out
      have hfl : nd.fields.length ≤ 1000000000000000 := by omega
      have hnx : n + 1 + nd.fields.length ≤ 1000000000000000 := by omega
      have hwa : IntKind.i64.wrap (1 + (nd.fields.length : Int)) = 1 + (nd.fields.length : Int) := by rw [IntKind.wrap_i64]; omega
      have hwr : IntKind.i64.wrap ((n : Int) + (1 + (nd.fields.length : Int))) = (n : Int) + (1 + (nd.fields.length : Int)) := by rw [IntKind.wrap_i64]; omega
      have hn2 := hide (show n + 1 + nd.fields.length = S + (k + 1) + fieldsN (conL (l.take (k + 1))) by rw [HT.out, hn.out]; omega)
      clear hnd hle hn0
      go_wp2_with fail
      go_roundw
      case rel => exact ⟨k + 1, n + 1 + nd.fields.length, by omega, by go_num, by first | rfl | (congr 1; omega), hn2, hnx, below_of⟩
      case measure => simp [intOf]; omega
    · have hk' : k = l.length := by omega
      subst hk'
      have hv := hide (show V = decide ((n : Int) ≤ 100) by rw [HV.out]; have h1 := hn.out; have h2 := HS.out; rw [List.take_length] at h1; rw [Bool.eq_iff_iff, decide_eq_true_iff, decide_eq_true_iff]; omega)
      go_wp2_with fail
      go_ret
      exact ⟨ret_bool (by rw [hv.out]), below_of⟩
end Go.Proofs.Ytomgdkfoinojiaa

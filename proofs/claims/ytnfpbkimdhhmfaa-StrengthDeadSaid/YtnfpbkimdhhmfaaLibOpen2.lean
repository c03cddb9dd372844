/-
  Arguments of the kinds int, bool, opened for a row. No condition.
-/
import Derived.Test.YtnfpbkimdhhmfaaLibOpen
namespace Go.Proofs.Ytnfpbkimdhhmfaa
open Go.RowKit Go.ChangeShapes Go.WideShapes Go.Deep
theorem openI {P : Program} {t : TypeId} {k : IntKind} (ht : P.underlying t = some (.int k)) {H : Type} {enc : TypeId × Value → H} {w : World} {v : Value} {d : DataW H} {p : List MemPlace} {r : Reach} {b0 : Nat} (hv : Value.okWide P w r b0 t v) (h : DataW.Trod enc P w 0 (fun _ => true) true t v d p)
    (hw : ∀ n ∈ d.weights P t, n ≤ reachBytes) : ∃ n : Int, v = .int k n ∧ (Lit.int k n).wf = true := by
  obtain ⟨n, rfl⟩ := okWide_int ht hv
  obtain ⟨m, e, g⟩ := (opens_int ht).arg h hw
  simp [Value.cells] at e
  subst e
  exact ⟨n, rfl, g⟩
theorem openB {P : Program} {t : TypeId} (ht : P.underlying t = some .bool) {H : Type} {enc : TypeId × Value → H} {w : World} {v : Value} {d : DataW H} {p : List MemPlace} {r : Reach} {b0 : Nat} (hv : Value.okWide P w r b0 t v) (_ : DataW.Trod enc P w 0 (fun _ => true) true t v d p)
    (_ : ∀ n ∈ d.weights P t, n ≤ reachBytes) : ∃ b : Bool, v = .bool b := okWide_bool ht hv
theorem wf_u8 {n : Int} (h : (Lit.int .u8 n).wf = true) : 0 ≤ n ∧ n ≤ 255 := by
  simp [Lit.wf, IntKind.min, IntKind.max, IntKind.signed, IntKind.bits] at h; omega
theorem wf_i64 {n : Int} (h : (Lit.int .i64 n).wf = true) : -9223372036854775808 ≤ n ∧ n ≤ 9223372036854775807 := by
  simp [Lit.wf, IntKind.min, IntKind.max, IntKind.signed, IntKind.bits] at h; omega
theorem wf_u64 {n : Int} (h : (Lit.int .u64 n).wf = true) : 0 ≤ n ∧ n ≤ 18446744073709551615 := by
  simp [Lit.wf, IntKind.min, IntKind.max, IntKind.signed, IntKind.bits] at h; omega
end Go.Proofs.Ytnfpbkimdhhmfaa

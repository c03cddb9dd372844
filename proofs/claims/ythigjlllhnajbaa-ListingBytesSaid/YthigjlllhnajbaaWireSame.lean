/-
  Contracts of the functions of this seat that each theorem names: what a call returns, and that it writes nothing that was there before. The conditions stand in each theorem.
-/
import Derived.Test.YthigjlllhnajbaaWireAppend
import Derived.Laws.BytesString
import Derived.Laws.Cells
namespace Go.Proofs.Ythigjlllhnajbaa
open Go.RowKit
def strB (q : List Int) : ByteArray := q.foldl (fun r n => r.push (UInt8.ofNat n.toNat)) ByteArray.empty
theorem flat_u8 : ∀ (q : List Int), q.flatMap U8.cells = q.map (Value.int .u8)
  | [] => rfl
  | x :: q => by rw [List.flatMap_cons, flat_u8 q]; rfl
theorem conv_bytes (A : Option Addr) (c : Nat) (q : List Int) (w : World) (hs : SlAt U8.cells 1 w A q) : (convert 56 9 (.slice A q.length c)).run Try.prog w = .ok (.string (strB q)) w := by
  rw [run_convert_bytes_string w 56 9 5 A q.length c Try.underlying56 Try.underlying5 Try.underlying9]
  cases A with
  | none =>
    have hq : q = [] := by
      by_cases h : q = []
      · exact h
      · obtain ⟨b, off, e, _⟩ := hs h; cases e
    subst hq; rfl
  | some a =>
    refine run_bytesToString w a q.length c q ?_
    have hc : ∀ j v, (q.map (Value.int .u8))[j]? = some v → w.cell? (a.add j) = some v := by
      intro j v hv
      have hne : q ≠ [] := by rintro rfl; simp at hv
      obtain ⟨b, off, e, _, h⟩ := U8.enc.flat hs hne
      injection e with e
      rw [e]
      exact h j v (by rw [flat_u8]; exact hv)
    have := run_loadCells_list (P := Try.prog) (w := w) a (q.map (Value.int .u8)) hc
    rw [List.length_map] at this
    exact this
set_option maxHeartbeats 1000000 in
theorem same_true (A : Option Addr) (c : Nat) (q : List Int) (B : Option Addr) (d : Nat) (p : List Int) (w : World) (ha : SlAt U8.cells 1 w A q) (hb : SlAt U8.cells 1 w B p) (e : Hid (q = p)) :
    Calls Try.prog 30 #[.slice A q.length c, .slice B p.length d] w fun r w' => r = .returned (.bool true) ∧ Below w.heap.size w w' := by
  have h1 : ∀ u [Later w u], (convert 56 9 (.slice A q.length c)).run Try.prog u = .ok (.string (strB q)) u := fun u i => conv_bytes A c q u (ha.below i.below)
  have h2 : ∀ u [Later w u], (convert 56 9 (.slice B p.length d)).run Try.prog u = .ok (.string (strB q)) u := fun u i => by rw [e.out]; exact conv_bytes B d p u (hb.below i.below)
  go_enter Try.func30, Try.ntmps30
  go_wp2_with fail
  go_ret
  exact ⟨ret_bool (by simp), below_of⟩
end Go.Proofs.Ythigjlllhnajbaa

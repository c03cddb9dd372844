/-
  Contracts of the functions of this seat that each theorem names: what a call returns, and that it writes nothing that was there before. The conditions stand in each theorem.
-/
import Derived.Test.YthigjlllhnajbaaC25LawBytes
namespace Go.Proofs.Ythigjlllhnajbaa
open Go.RowKit Go.WideShapes Go.ChangeShapes
theorem cellsOf_56 : Try.prog.cellsOf 56 = 1 := by kernel_rfl
set_option maxRecDepth 100000 in
theorem open_bytes {H : Type} {enc : TypeId × Value → H} {w : World} {v : Value} {d : DataW H} {p : List MemPlace} {r : Reach} {b0 : Nat} (hv : Value.okWide Try.prog w r b0 56 v) (h : DataW.Trod enc Try.prog w 0 (fun _ => true) true 56 v d p)
    (hw : ∀ n ∈ d.weights Try.prog 56, n ≤ reachBytes) : ∃ (A : Option Addr) (c : Nat) (l : List Int), v = .slice A l.length c ∧ SlIn U8.cells 1 1 (fun _ n => (Lit.int .u8 n).wf = true) w A c l :=
  open_sl (f := U8.cells) (G := fun _ n => (Lit.int .u8 n).wf = true) Try.underlying56 (opens_slice (f := U8.cells) Try.underlying56 (by kernel_rfl : Try.prog.cellsOf 5 = 1) (by kernel_rfl : Try.prog.bytesOf 5 = 1) (opens_int Try.underlying5) (by decide) (fun _ => rfl)) hv h hw
theorem i64r_wf {n : Int} (h : (Lit.int .i64 n).wf = true) : I64r n := by
  have := wf_i64 h
  exact ⟨by omega, by omega⟩
theorem lawBytes_any (L : ListV) (A : Option Addr) (c : Nat) (b : List Int) (w : World) (hL : L.in_ w) (hb : SlIn U8.cells 1 1 (fun _ n => (Lit.int .u8 n).wf = true) w A c b) :
    Calls Try.prog 10 #[L.v, .slice A b.length c] w fun r w' => r = .returned (.bool true) ∧ Below w.heap.size w w' :=
  lawBytes_any' L.round L.sent L.received L.A L.c L.entries A c b w hL.at_.s hL.at_.sl (i64r_wf hL.r) (i64r_wf hL.s) (i64r_wf hL.c) (fun e he => listed_rng (hL.es e he)) hb.at_ (fun x hx => by have := wf_u8 (hb.es x hx); omega) (by have := hb.len; omega)
end Go.Proofs.Ythigjlllhnajbaa

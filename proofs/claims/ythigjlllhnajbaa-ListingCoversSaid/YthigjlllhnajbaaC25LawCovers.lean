/-
  Contracts of the functions of this seat that each theorem names: what a call returns, and that it writes nothing that was there before. The conditions stand in each theorem.
-/
import Derived.Test.YthigjlllhnajbaaC25RefCovers
import Derived.Test.YthigjlllhnajbaaC25Awake
import Derived.Test.YthigjlllhnajbaaC25Open
namespace Go.Proofs.Ythigjlllhnajbaa
open Go.RowKit
set_option maxRecDepth 100000 in
set_option maxHeartbeats 2000000 in
theorem lawCovers_any' (A : Option Addr) (c : Nat) (xs : List ScionE) (B : Option Addr) (d : Nat) (es : List StubE) (owner client : Int) (w : World) (hs : SlAt ScionE.cells 12 w A xs) (he : SlAt StubE.cells 12 w B es) (hl : xs.length ≤ 9223372036854775807) (hel : es.length ≤ 9223372036854775807) :
    Calls Try.prog 8 #[.slice A xs.length c, .slice B es.length d, .int .i64 owner, .int .i64 client] w fun r w' => r = .returned (.bool true) ∧ Below w.heap.size w w' := by
  have HC : ∀ u [Later w u], Calls Try.prog 25 #[.slice A xs.length c, .slice B es.length d, .int .i64 owner, .int .i64 client] u fun r w' => r = .returned (.bool (coversB xs es owner client)) ∧ Below u.heap.size u w' := fun u i => covers_any A c xs B d es owner client u (hs.below i.below) (he.below i.below) hl hel
  have HR : ∀ u [Later w u], Calls Try.prog 26 #[.slice A xs.length c, .slice B es.length d, .int .i64 owner, .int .i64 client] u fun r w' => r = .returned (.bool (coversB xs es owner client)) ∧ Below u.heap.size u w' := fun u i => refCovers_any A c xs B d es owner client u (hs.below i.below) (he.below i.below) hl hel
  generalize coversB xs es owner client = V at HC HR
  go_enter Try.func8, Try.ntmps8
  go_wp2_with (go_at_call 11; refine (awake_any _).mono ?_)
  rintro r w1 ⟨rfl, hb1⟩
  have l1 := later hb1
  by_cases hn : 30 < xs.length
  · have hn' : (30 : Int) < (xs.length : Int) := by omega
    go_wp2_with (go_at_call 11; refine (awake_any _).mono ?_)
    rintro r w2 ⟨rfl, hb2⟩
    have l2 := later hb2
    go_wp2_with fail
    go_ret
    exact ⟨rfl, below_of⟩
  have hn' : decide ((30 : Int) < (xs.length : Int)) = false := by simp; omega
  by_cases hm : 30 < es.length
  · have hm' : (30 : Int) < (es.length : Int) := by omega
    go_wp2_with (go_at_call 11; refine (awake_any _).mono ?_)
    rintro r w2 ⟨rfl, hb2⟩
    have l2 := later hb2
    go_wp2_with fail
    go_ret
    exact ⟨rfl, below_of⟩
  have hm' : decide ((30 : Int) < (es.length : Int)) = false := by simp; omega
  go_wp2_with (go_at_call 25; refine (HC _).mono ?_)
  rintro r w2 ⟨rfl, hb2⟩
  have l2 := later hb2
  go_wp2_with (go_at_call 26; refine (HR _).mono ?_)
  rintro r w3 ⟨rfl, hb3⟩
  have l3 := later hb3
  go_wp2_with fail
  go_ret
  exact ⟨ret_bool (by simp), below_of⟩
theorem lawCovers_any (A : Option Addr) (c : Nat) (xs : List ScionE) (B : Option Addr) (d : Nat) (es : List StubE) (o m : Int) (w : World) (hx : SlIn ScionE.cells 12 80 (fun _ e => e.wf) w A c xs) (he : SlIn StubE.cells 12 80 (fun _ e => e.wf) w B d es) :
    Calls Try.prog 8 #[.slice A xs.length c, .slice B es.length d, .int .i64 o, .int .i64 m] w fun r w' => r = .returned (.bool true) ∧ Below w.heap.size w w' :=
  lawCovers_any' A c xs B d es o m w hx.at_ he.at_ (by have := hx.len; omega) (by have := he.len; omega)
end Go.Proofs.Ythigjlllhnajbaa

/-
  Contracts of the functions of this seat that each theorem names: what a call returns, and that it writes nothing that was there before. The conditions stand in each theorem.
-/
import Derived.Test.YthigjlllhnajbaaC25Covers
namespace Go.Proofs.Ythigjlllhnajbaa
open Go.RowKit
attribute [local go_sem ↓] run_eql_id
attribute [local go_sem] Instr.makeFunc
def lackB (xs : List ScionE) (owner client : Int) (e : StubE) : Bool := (decide (e.owner = owner) && !e.dead) && !(xs.any (coverB client e))
def coversB (xs : List ScionE) (es : List StubE) (owner client : Int) : Bool := !(es.any (lackB xs owner client))
set_option maxRecDepth 100000 in
set_option maxHeartbeats 2000000 in
/-- The outer closure: whether a stub lacks its scion. -/
theorem cover2_any (bo bs bc : Nat) (owner client : Int) (A : Option Addr) (c : Nat) (xs : List ScionE) (e : StubE) (w : World) (ho : w.cell? ⟨bo, 0, none⟩ = some (.int .i64 owner)) (hsl : w.cell? ⟨bs, 0, none⟩ = some (.slice A xs.length c)) (hc : w.cell? ⟨bc, 0, none⟩ = some (.int .i64 client))
    (hs : SlAt ScionE.cells 12 w A xs) (hl : xs.length ≤ 9223372036854775807) :
    Calls Try.prog 42 #[e.v, .pointer (some ⟨bo, 0, none⟩), .pointer (some ⟨bs, 0, none⟩), .pointer (some ⟨bc, 0, none⟩)] w fun r w' => r = .returned (.bool (lackB xs owner client e)) ∧ Below w.heap.size w w' := by
  have HO := Later.cell ho
  have HS := Later.cell hsl
  have HC := Later.cell hc
  have Hs : ∀ u [Later w u], SlAt ScionE.cells 12 u A xs := fun u i => hs.below i.below
  have Hc := hide hc
  clear ho hsl hc hs
  go_enter Try.func42, Try.ntmps42
  go_upto_region 1 with fail
  refine wp_name ?_
  intro w0 hw0
  obtain ⟨B0, l0⟩ := box1 hw0
  clear hw0
  have HI : ∀ u [Later w0 u], Calls Try.prog 43 #[.slice A xs.length c, .func (.func 44) #[] #[.pointer (some ⟨bc, 0, none⟩), .pointer (some ⟨w.heap.size, 0, none⟩)]] u fun r w' => r = .returned (.bool (xs.any (coverB client e))) ∧ Below u.heap.size u w' := by
    intro u i
    have lu : ∀ b [Later b w0], Later b u := fun b k => k.trans i
    refine contScions_any (coverB client e) A c xs _ _ u (Hs u) hl ?_
    intro u' i' x
    have lu' : ∀ b [Later b u], Later b u' := fun b k => k.trans i'
    refine cover1_any bc w.heap.size client e x u' (Later.cell Hc.out u') ?_
    intro u2 i2 j
    have lu2 : ∀ b [Later b u'], Later b u2 := fun b k => k.trans i2
    exact ((B0 u2).2 j).1
  cases hany : xs.any (coverB client e) <;> simp only [hany] at HI
  all_goals by_cases h1 : e.owner = owner
  all_goals cases h2 : e.dead
  all_goals go_wp2_with (go_at_call 43; refine (HI _).mono ?_)
  all_goals first
    | (go_ret; exact ⟨ret_bool (by simp [lackB, h1, h2]), below_of⟩)
    | (intro r w1 h6
       first | (have hb6 := h6.2; have he6 := h6.1; clear h6; subst he6) | (intro hb6; subst h6)
       have l1 := later hb6
       go_wp2_with fail
       go_ret
       exact ⟨ret_bool (by simp [lackB, h1, h2, hany]), below_of⟩)
set_option maxHeartbeats 2000000 in
theorem covers_any (A : Option Addr) (c : Nat) (xs : List ScionE) (B : Option Addr) (d : Nat) (es : List StubE) (owner client : Int) (w : World) (hs : SlAt ScionE.cells 12 w A xs) (he : SlAt StubE.cells 12 w B es) (hl : xs.length ≤ 9223372036854775807) (hel : es.length ≤ 9223372036854775807) :
    Calls Try.prog 25 #[.slice A xs.length c, .slice B es.length d, .int .i64 owner, .int .i64 client] w fun r w' => r = .returned (.bool (coversB xs es owner client)) ∧ Below w.heap.size w w' := by
  have Hs : ∀ u [Later w u], SlAt ScionE.cells 12 u A xs := fun u i => hs.below i.below
  have He : ∀ u [Later w u], SlAt StubE.cells 12 u B es := fun u i => he.below i.below
  clear hs he
  go_enter Try.func25, Try.ntmps25
  go_upto_region 1 with fail
  refine wp_name ?_
  intro w0 hw0
  obtain ⟨B0, B1, B2, l0⟩ := box3 hw0
  clear hw0
  have HI : ∀ u [Later w0 u], Calls Try.prog 41 #[.slice B es.length d, .func (.func 42) #[] #[.pointer (some ⟨w.heap.size + 1, 0, none⟩), .pointer (some ⟨w.heap.size, 0, none⟩), .pointer (some ⟨w.heap.size + 1 + 1, 0, none⟩)]] u fun r w' => r = .returned (.bool (es.any (lackB xs owner client))) ∧ Below u.heap.size u w' := by
    intro u i
    have lu : ∀ b [Later b w0], Later b u := fun b k => k.trans i
    refine contStubs_any (lackB xs owner client) B d es _ _ _ u (He u) hel ?_
    intro u' i' x
    have lu' : ∀ b [Later b u], Later b u' := fun b k => k.trans i'
    exact cover2_any _ _ _ owner client A c xs x u' (((B1 u').2 0).1.trans rfl) (((B0 u').2 0).1.trans rfl) (((B2 u').2 0).1.trans rfl) (Hs u') hl
  cases hany : es.any (lackB xs owner client) <;> simp only [hany] at HI
  all_goals go_wp2_with (go_at_call 41; refine (HI _).mono ?_)
  all_goals rintro r w1 ⟨rfl, hb1⟩
  all_goals have l1 := later hb1
  all_goals go_wp2_with fail
  all_goals go_ret
  all_goals exact ⟨ret_bool (by simp [coversB, hany]), below_of⟩
end Go.Proofs.Ythigjlllhnajbaa

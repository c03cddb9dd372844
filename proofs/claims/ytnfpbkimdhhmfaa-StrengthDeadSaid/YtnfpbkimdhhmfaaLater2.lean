/-
  More on later worlds: stores. Conditions stand in each theorem.
-/
import Derived.Test.YtnfpbkimdhhmfaaLater
namespace Go.Proofs.Ytnfpbkimdhhmfaa
open Go.RowKit
section
variable {b w w' u W : World}
theorem later_put {p : Addr} {v : Value} [h : Later W u] (hp : W.heap.size ≤ p.block) (e : u.setCell p v = w') : ∀ b [Later b W], Later b w' := fun b k => by
  have hs := k.below.size
  exact ⟨by rw [← e]; exact (k.trans h).below.setCell (by omega) v⟩
theorem later_put2 {p q : Addr} {v v' : Value} [h : Later W u] (hp : W.heap.size ≤ p.block) (hq : W.heap.size ≤ q.block) (e : (u.setCell p v).setCell q v' = w') : ∀ b [Later b W], Later b w' := fun b k => by
  have hs := k.below.size
  exact ⟨by rw [← e]; exact ((k.trans h).below.setCell (by omega) v).setCell (by omega) v'⟩
theorem later_put3 {p q r : Addr} {v v' v'' : Value} [h : Later W u] (hp : W.heap.size ≤ p.block) (hq : W.heap.size ≤ q.block) (hr : W.heap.size ≤ r.block) (e : ((u.setCell p v).setCell q v').setCell r v'' = w') : ∀ b [Later b W], Later b w' := fun b k => by
  have hs := k.below.size
  exact ⟨by rw [← e]; exact (((k.trans h).below.setCell (by omega) v).setCell (by omega) v').setCell (by omega) v''⟩
theorem boxed_set3 {w0 : World} {g : Nat} {c : Array Value} {t : TypeId} (h : Boxed w0 g c t) [Later w0 u] {i j k : Nat} {v v' v'' : Value} (e : ((u.setCell ⟨g, i, none⟩ v).setCell ⟨g, j, none⟩ v').setCell ⟨g, k, none⟩ v'' = w') : Boxed w' g (((c.setIfInBounds i v).setIfInBounds j v').setIfInBounds k v'') t :=
  boxed (by rw [← e]; exact blk_set (blk_set (blk_set (h u).1 i v) j v') k v'')
theorem boxed_later {w0 w1 : World} {g : Nat} {c : Array Value} {t : TypeId} (h : Boxed w0 g c t) [Later w0 w1] : Boxed w1 g c t := boxed (h w1).1
/-- What a world's name stands for is later than what its parts are later than. -/
theorem later_name {W0 : World} (e : W0 = w') [h : Later b W0] : Later b w' := e ▸ h
theorem later_name' {W0 : World} (e : W0 = w') (h : Later W W0) : ∀ b [Later b W], Later b w' := fun b k => e ▸ (k.trans h)
end
end Go.Proofs.Ytnfpbkimdhhmfaa

/-
  Small texts of this seat, put into one. Conditions stand in each theorem.
-/
import Derived.Test.YtffnogjgnpbjlaaGPlain
import Derived.Test.YtffnogjgnpbjlaaStabPlain
set_option linter.unusedSimpArgs false
set_option linter.unusedVariables false
namespace Go.Proofs.Ytffnogjgnpbjlaa
/-! ### Paths -/
section
variable (top : Nat) (P : Nat → List Nat)
/-- A path from a to b, all of whose numbers have S. -/
inductive Via (S : Nat → Prop) (a : Nat) : Nat → Prop
  | refl : S a → Via S a a
  | step {u v : Nat} : Via S a u → u ∈ P v → v < top → S v → Via S a v
/-- A path from the top with at most k edges that do not lead downwards. -/
inductive ViaK (S : Nat → Prop) : Nat → Nat → Prop
  | root {k : Nat} : S top → ViaK S k top
  | fwd {k u v : Nat} : ViaK S k u → u ∈ P v → v < top → v < u → S v → ViaK S k v
  | back {k u v : Nat} : ViaK S k u → u ∈ P v → v < top → u ≤ v → S v → ViaK S (k + 1) v
end
variable {top : Nat} {P : Nat → List Nat} {S T : Nat → Prop} {a b c x v i k : Nat} {d : Nat → Int}
theorem Via.mono (h : Via top P S a b) (hs : ∀ y, S y → T y) : Via top P T a b := by
  induction h with
  | refl h => exact .refl (hs _ h)
  | step _ h1 h2 h3 ih => exact .step ih h1 h2 (hs _ h3)
theorem Via.trans (h : Via top P S a b) (h' : Via top P S b c) : Via top P S a c := by
  induction h' with
  | refl _ => exact h
  | step _ h1 h2 h3 ih => exact .step ih h1 h2 h3
theorem Via.fin (h : Via top P S a b) : S b := by cases h <;> assumption
theorem ViaK.mono (h : ViaK top P S k v) : ∀ {k' : Nat}, k ≤ k' → ViaK top P S k' v := by
  induction h with
  | root h => exact fun _ => .root h
  | fwd _ h1 h2 h3 h4 ih => exact fun hk => .fwd (ih hk) h1 h2 h3 h4
  | back _ h1 h2 h3 h4 ih =>
    intro k' hk
    obtain ⟨j, rfl⟩ : ∃ j, k' = j + 1 := ⟨k' - 1, by omega⟩
    exact .back (ih (by omega)) h1 h2 h3 h4
theorem ViaK.via (h : ViaK top P S k v) : Via top P S top v := by
  induction h with
  | root h => exact .refl h
  | fwd _ h1 h2 _ h4 ih => exact .step ih h1 h2 h4
  | back _ h1 h2 _ h4 ih => exact .step ih h1 h2 h4
theorem Via.viaK (h : Via top P S top v) : ∃ k, ViaK top P S k v := by
  induction h with
  | refl h => exact ⟨0, .root h⟩
  | @step u v _ h1 h2 h3 ih =>
    obtain ⟨k, hk⟩ := ih
    by_cases hlt : v < u
    · exact ⟨k, .fwd hk h1 h2 hlt h3⟩
    · exact ⟨k + 1, .back hk h1 h2 (by omega) h3⟩
/-- A path that comes by i, or does not. -/
theorem ViaK.part (h : ViaK top P S k v) (i : Nat) : ViaK top P (fun y => S y ∧ y ≠ i) k v ∨ ViaK top P S k i := by
  induction h with
  | @root k h =>
    by_cases e : top = i
    · subst e; exact .inr (.root h)
    · exact .inl (.root ⟨h, e⟩)
  | @fwd k u v h0 h1 h2 h3 h4 ih =>
    by_cases e : v = i
    · subst e; exact .inr (.fwd h0 h1 h2 h3 h4)
    · exact ih.imp (fun h => .fwd h h1 h2 h3 ⟨h4, e⟩) id
  | @back k u v h0 h1 h2 h3 h4 ih =>
    by_cases e : v = i
    · subst e; exact .inr (.back h0 h1 h2 h3 h4)
    · exact ih.imp (fun h => .back h h1 h2 h3 ⟨h4, e⟩) (fun h => h.mono (by omega))
/-- x lies on every path to v. -/
def Dom (top : Nat) (P : Nat → List Nat) (x v : Nat) : Prop := ¬ Via top P (· ≠ x) top v
def DomK (top : Nat) (P : Nat → List Nat) (k x v : Nat) : Prop := ¬ ViaK top P (· ≠ x) k v
theorem Dom.self : Dom top P v v := fun h => h.fin rfl
theorem DomK.self : DomK top P k v v := fun h => h.via.fin rfl
theorem Dom.topD : Dom top P top v := fun h => by
  have : ∀ u, Via top P (· ≠ top) top u → False := fun u hu => by
    induction hu with
    | refl h => exact h rfl
    | step _ _ _ _ ih => exact ih
  exact this v h
theorem Dom.pred {u : Nat} (h : Dom top P x v) (hu : u ∈ P v) (hv : v < top) (hx : x ≠ v) : Dom top P x u := fun hp => h (.step hp hu hv (fun e => hx e.symm))
theorem max_of {Q : Nat → Nat → Prop} (hm : ∀ i k k', Q i k → k ≤ k' → Q i k') : ∀ n, (∀ i, i < n → ∃ k, Q i k) → ∃ K, ∀ i, i < n → Q i K
  | 0, _ => ⟨0, fun i h => by omega⟩
  | n + 1, h => by
    obtain ⟨K, hK⟩ := max_of hm n fun i hi => h i (by omega)
    obtain ⟨k, hk⟩ := h n (by omega)
    refine ⟨max K k, fun i hi => ?_⟩
    by_cases e : i = n
    · subst e; exact hm _ _ _ hk (Nat.le_max_right _ _)
    · exact hm _ _ _ (hK i (by omega)) (Nat.le_max_left _ _)
/-- A number of passes that suffices. -/
theorem passes_exist (top : Nat) (P : Nat → List Nat) : ∃ K, ∀ x v, x ≤ top → v ≤ top → DomK top P K x v → Dom top P x v := by
  have h1 : ∀ x, x < top + 1 → ∃ K, ∀ v, v < top + 1 → (DomK top P K x v → Dom top P x v) := fun x _ =>
    max_of (Q := fun v K => DomK top P K x v → Dom top P x v) (fun v k k' h hk hd => h fun hp => hd (hp.mono hk)) (top + 1) fun v _ => by
      by_cases h : Via top P (· ≠ x) top v
      · obtain ⟨k, hk⟩ := h.viaK
        exact ⟨k, fun hd => absurd hk hd⟩
      · exact ⟨0, fun _ => h⟩
  obtain ⟨K, hK⟩ := max_of (Q := fun x K => ∀ v, v < top + 1 → (DomK top P K x v → Dom top P x v)) (fun x k k' h hk v hv hd => h v hv fun hp => hd (hp.mono hk)) (top + 1) h1
  exact ⟨K, fun x v hx hv => hK x (by omega) v (by omega)⟩
/-! ### Chains -/
/-- x is on the chain of v. -/
inductive Anc (d : Nat → Int) : Nat → Nat → Prop
  | refl {v : Nat} : Anc d v v
  | up {v u x : Nat} : d v = (u : Int) → Anc d u x → Anc d v x
theorem Anc.trans {d : Nat → Int} {a b c : Nat} (h : Anc d a b) (k : Anc d b c) : Anc d a c := by
  induction h with
  | refl => exact k
  | up h _ ih => exact .up h (ih k)
theorem Anc.cases' {d : Nat → Int} {v x : Nat} (h : Anc d v x) : x = v ∨ ∃ u : Nat, d v = (u : Int) ∧ Anc d u x := by
  cases h with
  | refl => exact .inl rfl
  | up h1 h2 => exact .inr ⟨_, h1, h2⟩
/-- What holds of the list of dominators while it is made. -/
structure DomInv (top : Nat) (P : Nat → List Nat) (d : Nat → Int) : Prop where
  top_ : d top = (top : Int)
  up : ∀ i, i < top → d i = -1 ∨ ∃ u : Nat, d i = (u : Int) ∧ i < u ∧ u ≤ top ∧ 0 ≤ d u
  path : ∀ i, i < top → ∀ u : Nat, d i = (u : Int) → Via top P (· ≤ u) u i
  dom : ∀ i, i < top → 0 ≤ d i → ∀ x, Dom top P x i → Anc d i x
theorem DomInv.next (h : DomInv top P d) {v u : Nat} (hv : v < top) (hd : d v = (u : Int)) : v < u ∧ u ≤ top ∧ 0 ≤ d u := by
  rcases h.up v hv with e | ⟨u', e, h1, h2, h3⟩
  · omega
  · have : u' = u := by omega
    subst this; exact ⟨h1, h2, h3⟩
theorem DomInv.anc_top' (h : DomInv top P d) {v x : Nat} (hv : Anc d v x) : v = top → x = top := by
  induction hv with
  | refl => exact id
  | @up v u x h1 _ ih => exact fun e => ih (by rw [e, h.top_] at h1; omega)
theorem DomInv.anc_top (h : DomInv top P d) (ha : Anc d top x) : x = top := h.anc_top' ha rfl
theorem DomInv.anc_le (h : DomInv top P d) (ha : Anc d v x) (hv : v ≤ top) : v ≤ x ∧ x ≤ top := by
  induction ha with
  | refl => exact ⟨Nat.le_refl _, hv⟩
  | @up v u x h1 h2 ih =>
    by_cases e : v = top
    · have hu : u = top := by subst e; have := h.top_; omega
      have := ih (by omega)
      omega
    · obtain ⟨h3, h4, _⟩ := h.next (by omega) h1
      have := ih h4
      omega
theorem DomInv.anc_def (h : DomInv top P d) (ha : Anc d v x) (hv : v ≤ top) (h0 : 0 ≤ d v) : 0 ≤ d x := by
  induction ha with
  | refl => exact h0
  | @up v u x h1 h2 ih =>
    by_cases e : v = top
    · have hu : u = top := by subst e; have := h.top_; omega
      exact ih (by omega) (by rw [hu, h.top_]; omega)
    · obtain ⟨h3, h4, h5⟩ := h.next (by omega) h1
      exact ih h4 h5
theorem DomInv.to_top (h : DomInv top P d) : ∀ (n v : Nat), top - v ≤ n → v ≤ top → 0 ≤ d v → Anc d v top
  | n, v, hn, hv, h0 => by
    by_cases e : v = top
    · subst e; exact .refl
    · rcases h.up v (by omega) with e' | ⟨u, e', h1, h2, h3⟩
      · omega
      · cases n with
        | zero => omega
        | succ n => exact .up e' (h.to_top n u (by omega) h2 h3)
/-- Two on one chain lie one above the other. -/
theorem Anc.line {d : Nat → Int} {v a b : Nat} (ha : Anc d v a) (hb : Anc d v b) : Anc d a b ∨ Anc d b a := by
  induction ha with
  | refl => exact .inl hb
  | @up v u a h1 h2 ih =>
    rcases hb.cases' with e | ⟨u', h3, h4⟩
    · subst e; exact .inr (.up h1 h2)
    · have : u' = u := by omega
      subst this; exact ih h4
theorem DomInv.anti (h : DomInv top P d) (ha : Anc d a b) (hb : Anc d b a) (hv : a ≤ top) : a = b := by
  have h1 := h.anc_le ha hv
  have h2 := h.anc_le hb (by omega)
  omega
/-- A path down a chain, all below its head. -/
theorem DomInv.down (h : DomInv top P d) (ha : Anc d v x) (hv : v ≤ top) : Via top P (· ≤ x) x v := by
  induction ha with
  | refl => exact .refl (Nat.le_refl _)
  | @up v u x h1 h2 ih =>
    by_cases e : v = top
    · have hu : u = top := by subst e; have := h.top_; omega
      subst e
      have := ih (by omega)
      rwa [hu] at this
    · obtain ⟨h3, h4, _⟩ := h.next (by omega) h1
      have hx := h.anc_le h2 h4
      exact (ih h4).trans ((h.path v (by omega) u h1).mono fun y hy => Nat.le_trans hy hx.1)
/-! ### The meeting point of two chains -/
def meetF (d : Nat → Int) : Nat → Nat → Nat → Nat
  | 0, a, _ => a
  | n + 1, a, b => if a = b then a else if a < b then meetF d n (d a).toNat b else meetF d n a (d b).toNat
structure Meet (d : Nat → Int) (a b m : Nat) : Prop where
  l : Anc d a m
  r : Anc d b m
  all : ∀ x, Anc d a x → Anc d b x → Anc d m x
theorem meetF_spec (h : DomInv top P d) : ∀ (n a b : Nat), (top - a) + (top - b) ≤ n → a ≤ top → b ≤ top → 0 ≤ d a → 0 ≤ d b → Meet d a b (meetF d n a b)
  | 0, a, b, hn, ha, hb, _, _ => by
    have h1 : a = top := by omega
    have h2 : b = top := by omega
    subst h1; subst h2
    exact ⟨.refl, .refl, fun x hx _ => hx⟩
  | n + 1, a, b, hn, ha, hb, h0, h1 => by
    unfold meetF
    by_cases e : a = b
    · rw [if_pos e]; subst e; exact ⟨.refl, .refl, fun x hx _ => hx⟩
    · rw [if_neg e]
      by_cases hlt : a < b
      · rw [if_pos hlt]
        rcases h.up a (by omega) with e' | ⟨u, e', h2, h3, h4⟩
        · omega
        · rw [e', Int.toNat_natCast]
          have ih := meetF_spec h n u b (by omega) h3 hb h4 h1
          refine ⟨.up e' ih.l, ih.r, fun x hx hy => ?_⟩
          rcases hx.cases' with e2 | ⟨u', h5, h6⟩
          · subst e2
            have := h.anc_le hy hb
            omega
          · have : u' = u := by omega
            subst this; exact ih.all x h6 hy
      · rw [if_neg hlt]
        rcases h.up b (by omega) with e' | ⟨u, e', h2, h3, h4⟩
        · omega
        · rw [e', Int.toNat_natCast]
          have ih := meetF_spec h n a u (by omega) ha h3 h0 h4
          refine ⟨ih.l, .up e' ih.r, fun x hx hy => ?_⟩
          rcases hy.cases' with e2 | ⟨u', h5, h6⟩
          · subst e2
            have := h.anc_le hx ha
            omega
          · have : u' = u := by omega
            subst this; exact ih.all x hx h6
/-- One more predecessor. -/
def meetP (top : Nat) (d : Nat → Int) (acc : Int) (p : Nat) : Int := if d p < 0 then acc else if acc < 0 then (p : Int) else (meetF d (2 * top) acc.toNat p : Nat)
def newD (top : Nat) (d : Nat → Int) (ps : List Nat) : Int := ps.foldl (meetP top d) (-1)
/-- What has been found of the predecessors ps. -/
def NewOk (top : Nat) (d : Nat → Int) (ps : List Nat) (r : Int) : Prop :=
  (r = -1 ∧ ∀ p ∈ ps, d p < 0) ∨ ∃ z : Nat, r = (z : Int) ∧ z ≤ top ∧ 0 ≤ d z ∧ (∃ p ∈ ps, 0 ≤ d p ∧ Anc d p z) ∧ (∀ p ∈ ps, 0 ≤ d p → Anc d p z) ∧ ∀ x, (∀ p ∈ ps, 0 ≤ d p → Anc d p x) → Anc d z x
theorem newOk_snoc (h : DomInv top P d) {ps : List Nat} {r : Int} (hr : NewOk top d ps r) {p : Nat} (hp : p ≤ top) : NewOk top d (ps ++ [p]) (meetP top d r p) := by
  unfold meetP
  by_cases hd : d p < 0
  · rw [if_pos hd]
    rcases hr with ⟨h1, h2⟩ | ⟨z, h1, h2, h3, ⟨q, hq, h4⟩, h5, h6⟩
    · exact .inl ⟨h1, fun q hq => by rcases List.mem_append.1 hq with hq | hq; exact h2 q hq; rw [List.mem_singleton] at hq; subst hq; exact hd⟩
    · refine .inr ⟨z, h1, h2, h3, ⟨q, List.mem_append_left _ hq, h4⟩, fun q hq h0 => ?_, fun x hx => h6 x fun q hq => hx q (List.mem_append_left _ hq)⟩
      rcases List.mem_append.1 hq with hq | hq
      · exact h5 q hq h0
      · rw [List.mem_singleton] at hq; subst hq; omega
  · rw [if_neg hd]
    rcases hr with ⟨h1, h2⟩ | ⟨z, h1, h2, h3, ⟨q, hq, h4⟩, h5, h6⟩
    · rw [if_pos (by omega)]
      refine .inr ⟨p, rfl, hp, by omega, ⟨p, by simp, by omega, .refl⟩, fun q hq h0 => ?_, fun x hx => hx p (by simp) (by omega)⟩
      rcases List.mem_append.1 hq with hq | hq
      · have := h2 q hq; omega
      · rw [List.mem_singleton] at hq; subst hq; exact .refl
    · rw [if_neg (by omega), h1, Int.toNat_natCast]
      have m := meetF_spec h (2 * top) z p (by omega) h2 hp h3 (by omega)
      have hm := h.anc_le m.r hp
      refine .inr ⟨_, rfl, hm.2, h.anc_def m.r hp (by omega), ⟨p, by simp, by omega, m.r⟩, fun q hq h0 => ?_, fun x hx => ?_⟩
      · rcases List.mem_append.1 hq with hq | hq
        · exact (h5 q hq h0).trans m.l
        · rw [List.mem_singleton] at hq; subst hq; exact m.r
      · exact m.all x (h6 x fun q hq => hx q (List.mem_append_left _ hq)) (hx p (by simp) (by omega))
theorem newOk_take (h : DomInv top P d) {ps : List Nat} (hp : ∀ p ∈ ps, p ≤ top) : ∀ k, k ≤ ps.length → NewOk top d (ps.take k) ((ps.take k).foldl (meetP top d) (-1))
  | 0, _ => .inl ⟨rfl, by simp⟩
  | k + 1, hk => by
    have e : ps.take (k + 1) = ps.take k ++ [ps[k]] := by rw [List.take_add_one, List.getElem?_eq_getElem (by omega)]; rfl
    rw [e, List.foldl_append]
    exact newOk_snoc h (newOk_take h hp k (by omega)) (hp _ (List.getElem_mem _))
theorem newD_ok (h : DomInv top P d) {ps : List Nat} (hp : ∀ p ∈ ps, p ≤ top) : NewOk top d ps (newD top d ps) := by
  have := newOk_take h hp ps.length (Nat.le_refl _)
  rwa [List.take_length] at this
end Go.Proofs.Ytffnogjgnpbjlaa

namespace Go.Proofs.Ytffnogjgnpbjlaa
variable {top : Nat} {P : Nat → List Nat} {S T : Nat → Prop} {a b c x v i k m j : Nat} {d : Nat → Int}
def updN (d : Nat → Int) (i : Nat) (r : Int) : Nat → Int := fun j => if j = i then r else d j
theorem updN_at (r : Int) : updN d i r i = r := if_pos rfl
theorem updN_ne {r : Int} (h : j ≠ i) : updN d i r j = d j := if_neg h
theorem updN_self : updN d i (d i) = d := by
  funext j
  unfold updN
  split
  · rename_i h; rw [h]
  · rfl
/-- What the graph of numbers must have: every number has a predecessor above it. -/
structure NumG (top : Nat) (P : Nat → List Nat) : Prop where
  le : ∀ i, i < top → ∀ p ∈ P i, p ≤ top
  up : ∀ i, i < top → ∃ p ∈ P i, i < p
theorem anc_keepA {r : Int} (h : Anc d v x) : Anc (updN d i r) v x ∨ (Anc d v i ∧ x ≠ i ∧ Anc d i x) ∨ x = i ∧ Anc d v i := by
  induction h with
  | refl => exact .inl .refl
  | @up v u x h1 h2 ih =>
    by_cases e : v = i
    · subst e
      by_cases ex : x = v
      · exact .inr (.inr ⟨ex, .refl⟩)
      · exact .inr (.inl ⟨.refl, ex, .up h1 h2⟩)
    · rcases ih with h | ⟨h3, h4, h5⟩ | ⟨h3, h4⟩
      · exact .inl (.up (by rw [updN_ne e]; exact h1) h)
      · exact .inr (.inl ⟨.up h1 h3, h4, h5⟩)
      · exact .inr (.inr ⟨h3, .up h1 h4⟩)
theorem anc_to {r : Int} (h : Anc d v x) (hx : x = i) : Anc (updN d i r) v x := by
  induction h with
  | refl => exact .refl
  | @up v u x h1 h2 ih =>
    by_cases e : v = i
    · rw [e, hx]; exact .refl
    · exact .up (by rw [updN_ne e]; exact h1) (ih hx)
theorem anc_back {r : Int} {z : Nat} (hz : r = (z : Int)) (h : Anc (updN d i r) v x) : Anc d v x ∨ (Anc d v i ∧ Anc d z x) := by
  induction h with
  | refl => exact .inl .refl
  | @up v u x h1 h2 ih =>
    by_cases e : v = i
    · subst e
      rw [updN_at] at h1
      have : u = z := by omega
      subst this
      rcases ih with h | ⟨_, h⟩
      · exact .inr ⟨.refl, h⟩
      · exact .inr ⟨.refl, h⟩
    · rw [updN_ne e] at h1
      rcases ih with h | ⟨h3, h4⟩
      · exact .inl (.up h1 h)
      · exact .inr ⟨.up h1 h3, h4⟩
theorem DomInv.above {r : Int} (h : DomInv top P d) (ha : Anc d v x) (hi : i < v) (hv : v ≤ top) : Anc (updN d i r) v x := by
  rcases anc_keepA (i := i) (r := r) ha with h1 | ⟨h1, _⟩ | ⟨_, h1⟩
  · exact h1
  · have := h.anc_le h1 hv; omega
  · have := h.anc_le h1 hv; omega
/-- One step of a pass. -/
structure StepOk (top : Nat) (P : Nat → List Nat) (d : Nat → Int) (i z : Nat) : Prop where
  new : newD top d (P i) = (z : Int)
  gt : i < z
  le : z ≤ top
  all : ∀ p ∈ P i, 0 ≤ d p → Anc d p z
  inv : DomInv top P (updN d i (z : Int))
theorem step_ok (G : NumG top P) (h : DomInv top P d) (hi : i < top) (hdef : ∀ j, i < j → j ≤ top → 0 ≤ d j) : ∃ z, StepOk top P d i z := by
  obtain ⟨p0, hp0, hlt⟩ := G.up i hi
  have hle := G.le i hi
  rcases newD_ok h hle with ⟨_, h2⟩ | ⟨z, h1, h2, h3, ⟨q, hq, hq0, hqz⟩, h5, h6⟩
  · have := h2 p0 hp0
    have := hdef p0 hlt (hle p0 hp0)
    omega
  have hz : i < z := by
    have := h.anc_le (h5 p0 hp0 (hdef p0 hlt (hle p0 hp0))) (hle p0 hp0)
    omega
  have hdi : ∀ x, x ≠ i → Dom top P x i → Anc d z x := fun x hx hdx => h6 x fun p hp hp0 => by
    have hdp := hdx.pred hp hi hx
    by_cases e : p = top
    · by_cases ex : x = top
      · rw [e, ex]; exact .refl
      · subst e
        exact absurd (.refl (fun e' => ex e'.symm)) hdp
    · exact h.dom p (by have := hle p hp; omega) hp0 x hdp
  refine ⟨z, h1, hz, h2, h5, ?_, ?_, ?_, ?_⟩
  · rw [updN_ne (by omega)]; exact h.top_
  · intro j hj
    by_cases e : j = i
    · subst e
      exact .inr ⟨z, updN_at _, hz, h2, by rw [updN_ne (by omega)]; exact h3⟩
    · rw [updN_ne e]
      rcases h.up j hj with e' | ⟨u, e', h7, h8, h9⟩
      · exact .inl e'
      · refine .inr ⟨u, e', h7, h8, ?_⟩
        by_cases eu : u = i
        · subst eu; rw [updN_at]; omega
        · rw [updN_ne eu]; exact h9
  · intro j hj u hu
    by_cases e : j = i
    · subst e
      rw [updN_at] at hu
      have : u = z := by omega
      subst this
      exact .step (h.down hqz (hle q hq)) hq hi (by omega)
    · rw [updN_ne e] at hu
      exact h.path j hj u hu
  · intro j hj h0 x hx
    have hii : Dom top P x i → Anc (updN d i (z : Int)) i x := fun hd => by
      by_cases e : x = i
      · rw [e]; exact .refl
      · exact .up (updN_at _) (h.above (hdi x e hd) hz h2)
    by_cases e : j = i
    · subst e; exact hii hx
    · rw [updN_ne e] at h0
      have ha := h.dom j hj h0 x hx
      rcases anc_keepA (i := i) (r := (z : Int)) ha with h7 | ⟨h7, h8, h9⟩ | ⟨h7, h8⟩
      · exact h7
      · by_cases hd : Dom top P x i
        · exact (anc_to h7 rfl).trans (hii hd)
        · exfalso
          have hxi := h.anc_le h9 (by omega)
          have hv : Via top P (· ≠ x) top i := Classical.not_not.1 hd
          exact hx (hv.trans ((h.down h7 (by omega)).mono fun y hy => by omega))
      · rw [h7]; exact anc_to h8 rfl
/-- k passes are done, and m steps of the next one. -/
structure PassInv (top : Nat) (P : Nat → List Nat) (k m : Nat) (d : Nat → Int) : Prop where
  inv : DomInv top P d
  new : ∀ j, top - m ≤ j → j ≤ top → 0 ≤ d j ∧ ∀ x, Anc d j x → DomK top P k x j
  old : 1 ≤ k → ∀ j, j < top - m → 0 ≤ d j ∧ ∀ x, Anc d j x → DomK top P (k - 1) x j
theorem DomK.less {k' : Nat} (h : DomK top P k x v) (hk : k' ≤ k) : DomK top P k' x v := fun hp => h (hp.mono hk)
theorem PassInv.step (G : NumG top P) (h : PassInv top P k m d) (hm : m < top) : ∃ z, StepOk top P d (top - 1 - m) z ∧ PassInv top P k (m + 1) (updN d (top - 1 - m) (z : Int)) := by
  obtain ⟨i, hi⟩ : ∃ i, i = top - 1 - m := ⟨_, rfl⟩
  rw [← hi]
  obtain ⟨z, hs⟩ := step_ok (i := i) G h.inv (by omega) fun j h1 h2 => (h.new j (by omega) h2).1
  refine ⟨z, hs, hs.inv, ?_, ?_⟩
  all_goals
    have hki : ∀ x, Anc (updN d i (z : Int)) i x → DomK top P k x i := fun x hx => by
      rcases hx.cases' with e | ⟨u', h4, h5⟩
      · rw [e]; exact DomK.self
      · rw [updN_at] at h4
        have hu : u' = z := by omega
        subst hu
        have hz : Anc d u' x := by
          rcases anc_back rfl h5 with h6 | ⟨h6, h7⟩
          · exact h6
          · exact h7
        intro hp
        have key : ∀ p ∈ P i, 0 ≤ d p → Anc d p x := fun p hp h0 => (hs.all p hp h0).trans hz
        cases hp with
        | root _ => omega
        | @fwd _ p _ h6 h7 h8 h9 _ =>
          have hpt := G.le i h8 p h7
          have := h.new p (by omega) hpt
          exact this.2 x (key p h7 this.1) h6
        | @back k' p _ h6 h7 h8 h9 _ =>
          have := h.old (by omega) p (by omega)
          exact this.2 x (key p h7 this.1) h6
  · intro j h1 h2
    by_cases e : j = i
    · subst e
      exact ⟨by rw [updN_at]; omega, hki⟩
    · rw [updN_ne e]
      have h3 := h.new j (by omega) h2
      refine ⟨h3.1, fun x hx => ?_⟩
      rcases anc_back rfl hx with h4 | ⟨h4, _⟩
      · exact h3.2 x h4
      · have := h.inv.anc_le h4 h2; omega
  · intro hk j hj
    have h3 := h.old hk j (by omega)
    rw [updN_ne (by omega)]
    refine ⟨h3.1, fun x hx => ?_⟩
    rcases anc_back rfl hx with h4 | ⟨h4, h5⟩
    · exact h3.2 x h4
    · intro hp
      have hix : Anc (updN d i (z : Int)) i x := .up (updN_at _) (h.inv.above h5 hs.gt hs.le)
      rcases hp.part i with h6 | h6
      · exact h3.2 i h4 (by
          have : ∀ {k v : Nat}, ViaK top P (fun y => y ≠ x ∧ y ≠ i) k v → ViaK top P (· ≠ i) k v := fun {k v} hv => by
            induction hv with
            | root h => exact .root h.2
            | fwd _ h1 h2 h3 h4 ih => exact .fwd ih h1 h2 h3 h4.2
            | back _ h1 h2 h3 h4 ih => exact .back ih h1 h2 h3 h4.2
          exact this h6)
      · exact ((hki x hix).less (Nat.sub_le k 1)) h6
theorem PassInv.roll (h : PassInv top P k top d) : PassInv top P (k + 1) 0 d where
  inv := h.inv
  new j h1 h2 := by
    have e : j = top := by omega
    subst e
    exact ⟨(h.new j (by omega) (Nat.le_refl _)).1, fun x hx => by rw [h.inv.anc_top hx]; exact DomK.self⟩
  old _ j hj := h.new j (by omega) (by omega)
def startD (top : Nat) : Nat → Int := fun j => if j = top then (top : Int) else -1
theorem start_inv : DomInv top P (startD top) where
  top_ := if_pos rfl
  up i hi := .inl (if_neg (by omega))
  path i hi u hu := by rw [startD, if_neg (by omega)] at hu; omega
  dom i hi h0 := by rw [startD, if_neg (by omega)] at h0; omega
theorem PassInv.start : PassInv top P 0 0 (startD top) where
  inv := start_inv
  new j h1 h2 := by
    have e : j = top := by omega
    subst e
    exact ⟨by rw [startD, if_pos rfl]; omega, fun x hx => by rw [start_inv (P := P).anc_top hx]; exact DomK.self⟩
  old hk := by omega
/-- Once the chains are the dominators, a step changes nothing. -/
theorem PassInv.still (G : NumG top P) {K : Nat} (hK : ∀ x v, x ≤ top → v ≤ top → DomK top P K x v → Dom top P x v) (h : PassInv top P k m d) (hk : K + 1 ≤ k) (hm : m < top) : newD top d (P (top - 1 - m)) = d (top - 1 - m) := by
  obtain ⟨z, hs, h'⟩ := h.step G hm
  obtain ⟨i, hi⟩ : ∃ i, i = top - 1 - m := ⟨_, rfl⟩
  rw [← hi] at hs h' ⊢
  have hdo : ∀ x, Anc d i x → Dom top P x i := fun x hx => hK x i (h.inv.anc_le hx (by omega)).2 (by omega) (((h.old (by omega) i (by omega)).2 x hx).less (by omega))
  have hdn : ∀ x, Anc (updN d i (z : Int)) i x → Dom top P x i := fun x hx => hK x i (h'.inv.anc_le hx (by omega)).2 (by omega) (((h'.new i (by omega) (by omega)).2 x hx).less (by omega))
  have h0 := (h.old (by omega) i (by omega)).1
  rcases h.inv.up i (by omega) with e | ⟨u, e, h1, h2, h3⟩
  · omega
  rw [hs.new, e]
  have hn0 := (h'.new i (by omega) (by omega)).1
  have a1 : Anc d i z := h.inv.dom i (by omega) h0 z (hdn z (.up (updN_at _) .refl))
  have a2 : Anc (updN d i (z : Int)) i u := h'.inv.dom i (by omega) hn0 u (hdo u (.up e .refl))
  have b1 : u ≤ z := by
    rcases a1.cases' with e' | ⟨u', h4, h5⟩
    · have := hs.gt; omega
    · have : u' = u := by omega
      subst this; exact (h.inv.anc_le h5 h2).1
  have b2 : z ≤ u := by
    rcases a2.cases' with e' | ⟨u', h4, h5⟩
    · omega
    · rw [updN_at] at h4
      have : u' = z := by omega
      subst this; exact (h'.inv.anc_le h5 hs.le).1
  omega
/-- Where a pass changed nothing, the chains are the dominators. -/
theorem DomInv.exact (G : NumG top P) (h : DomInv top P d) (hd : ∀ i, i < top → 0 ≤ d i) (hf : ∀ i, i < top → newD top d (P i) = d i) (hv : v ≤ top) : Anc d v x ↔ Dom top P x v := by
  have hdef : ∀ j, j ≤ top → 0 ≤ d j := fun j hj => by
    by_cases e : j = top
    · rw [e, h.top_]; omega
    · exact hd j (by omega)
  constructor
  · intro ha hp
    have key : ∀ w, Via top P (· ≠ x) top w → w ≤ top → ¬ Anc d w x := fun w hw => by
      induction hw with
      | refl hx => exact fun _ ha => hx (h.anc_top ha).symm
      | @step u w hu h1 h2 h3 ih =>
        intro _ ha
        obtain ⟨z, hs⟩ := step_ok (i := w) G h h2 fun j _ hj => hdef j hj
        have hut := G.le w h2 u h1
        refine ih hut ?_
        rcases ha.cases' with e | ⟨w', h4, h5⟩
        · exact absurd e.symm h3
        · have : w' = z := by have := hs.new; have := hf w h2; omega
          subst this
          exact (hs.all u h1 (hdef u hut)).trans h5
    exact key v hp hv ha
  · intro hx
    by_cases e : v = top
    · by_cases ex : x = top
      · rw [e, ex]; exact .refl
      · subst e
        exact absurd (.refl (fun e' => ex e'.symm)) hx
    · exact h.dom v (by omega) (hd v (by omega)) x hx
end Go.Proofs.Ytffnogjgnpbjlaa

namespace Go.Proofs.Ytffnogjgnpbjlaa
def stepsD (top : Nat) (P : Nat → List Nat) (d : Nat → Int) : Nat → Nat → Int
  | 0 => d
  | m + 1 => updN (stepsD top P d m) (top - 1 - m) (newD top (stepsD top P d m) (P (top - 1 - m)))
def changedD (top : Nat) (P : Nat → List Nat) (d : Nat → Int) : Nat → Bool
  | 0 => false
  | m + 1 => changedD top P d m || decide (newD top (stepsD top P d m) (P (top - 1 - m)) ≠ stepsD top P d m (top - 1 - m))
def passD (top : Nat) (P : Nat → List Nat) : Nat → Nat → Int
  | 0 => startD top
  | k + 1 => stepsD top P (passD top P k) top
variable {top : Nat} {P : Nat → List Nat} {a b c x v i k m j : Nat} {d : Nat → Int}
theorem steps_inv (G : NumG top P) (h : PassInv top P k 0 d) : ∀ m, m ≤ top → PassInv top P k m (stepsD top P d m)
  | 0, _ => h
  | m + 1, hm => by
    have ih := steps_inv G h m (by omega)
    obtain ⟨z, hs, h'⟩ := ih.step G (by omega)
    unfold stepsD
    rw [hs.new]
    exact h'
theorem pass_inv (G : NumG top P) : ∀ k, PassInv top P k 0 (passD top P k)
  | 0 => PassInv.start
  | k + 1 => (steps_inv G (pass_inv G k) top (Nat.le_refl _)).roll
theorem unchanged : ∀ {m : Nat}, changedD top P d m = false → stepsD top P d m = d ∧ ∀ j, j < m → newD top d (P (top - 1 - j)) = d (top - 1 - j)
  | 0, _ => ⟨rfl, fun j hj => by omega⟩
  | m + 1, h => by
    unfold changedD at h
    rw [Bool.or_eq_false_iff] at h
    obtain ⟨h1, h2⟩ := unchanged h.1
    rw [h1] at h
    have h3 : newD top d (P (top - 1 - m)) = d (top - 1 - m) := by simpa using h.2
    refine ⟨?_, fun j hj => ?_⟩
    · unfold stepsD; rw [h1, h3, updN_self]
    · by_cases e : j = m
      · subst e; exact h3
      · exact h2 j (by omega)
/-- After a certain number of passes nothing changes. -/
theorem passes_end (G : NumG top P) : ∃ K, ∀ k, K ≤ k → ∀ m, m ≤ top → changedD top P (passD top P k) m = false := by
  obtain ⟨K, hK⟩ := passes_exist top P
  refine ⟨K + 1, fun k hk m => ?_⟩
  induction m with
  | zero => exact fun _ => rfl
  | succ m ih =>
    intro hm
    have h1 := ih (by omega)
    have h2 := (unchanged h1).1
    have h3 := (steps_inv G (pass_inv G k) m (by omega)).still G hK hk (by omega)
    unfold changedD
    rw [h1, h2]
    rw [h2] at h3
    simp [h3]
/-- What the search for dominators leaves: the list d, whose chains are the dominators. -/
structure DomEnd (top : Nat) (P : Nat → List Nat) (d : Nat → Int) : Prop where
  inv : DomInv top P d
  def_ : ∀ i, i ≤ top → 0 ≤ d i
  anc : ∀ v x, v ≤ top → (Anc d v x ↔ Dom top P x v)
theorem pass_exact (G : NumG top P) (hk : changedD top P (passD top P k) top = false) : DomEnd top P (passD top P k) := by
  obtain ⟨h1, h2⟩ := unchanged hk
  have h3 := steps_inv G (pass_inv G k) top (Nat.le_refl _)
  rw [h1] at h3
  have hd : ∀ i, i ≤ top → 0 ≤ passD top P k i := fun i hi => (h3.new i (by omega) hi).1
  exact ⟨h3.inv, hd, fun v x hv => h3.inv.exact G (fun i hi => hd i (by omega)) (fun i hi => by
    have := h2 (top - 1 - i) (by omega)
    rwa [show top - 1 - (top - 1 - i) = i by omega] at this) hv⟩
theorem DomEnd.next (h : DomEnd top P d) (hi : i < top) : ∃ u : Nat, d i = (u : Int) ∧ i < u ∧ u ≤ top := by
  rcases h.inv.up i hi with e | ⟨u, e, h1, h2, _⟩
  · have := h.def_ i (by omega); omega
  · exact ⟨u, e, h1, h2⟩
end Go.Proofs.Ytffnogjgnpbjlaa

namespace Go.Proofs.Ytffnogjgnpbjlaa
/-- A graph without the nodes of an identity. -/
def woN (L : List NodeC) (x : IDE) : List NodeC := L.filter fun n => decide (n.id ≠ x)
theorem firstN_wo {L : List NodeC} {x y : IDE} : firstN (woN L x) y = if y = x then none else firstN L y := by
  unfold firstN woN
  induction L with
  | nil => simp
  | cons n L ih =>
    by_cases hn : n.id = x
    · rw [List.filter_cons_of_neg (by simpa using hn), ih, List.find?_cons]
      by_cases e : y = x
      · rw [if_pos e, if_pos e]
      · rw [if_neg e, if_neg e, decide_eq_false (fun h => e (by rw [← h, hn]))]
    · rw [List.filter_cons_of_pos (by simpa using hn), List.find?_cons, List.find?_cons]
      by_cases e : n.id = y
      · rw [decide_eq_true e]
        simp only
        rw [if_neg (by rw [← e]; exact hn)]
      · rw [decide_eq_false e]
        exact ih
theorem reach_wo {L : List NodeC} {roots : List IDE} {x y : IDE} (h : Reach (woN L x) roots y) : Reach L roots y ∧ y ≠ x := by
  induction h with
  | root hr hs =>
    rw [firstN_wo] at hs
    split at hs
    · cases hs
    · rename_i e; exact ⟨.root hr hs, e⟩
  | step _ hn hy hs ih =>
    rw [firstN_wo] at hn hs
    split at hs
    · cases hs
    · rename_i e
      split at hn
      · cases hn
      · exact ⟨.step ih.1 hn hy hs, e⟩
/-- The node of a number. -/
def nodeAt (L : List NodeC) (ids : List IDE) (u : Nat) : NodeC := (firstN L (ids.getD u ⟨0, 0⟩)).getD ⟨0, 0, 0, 0, []⟩
def outRefs (L : List NodeC) (roots ids : List IDE) (u : Nat) : List IDE := if u = ids.length then roots else refsOf (nodeAt L ids u)
/-- The numbers of the predecessors, as the search notes them. -/
def predsL (L : List NodeC) (roots ids : List IDE) (i : Nat) : List Nat :=
  (ids.length :: List.range ids.length).flatMap fun u => ((outRefs L roots ids u).filter fun y => decide (y = ids.getD i ⟨0, 0⟩)).map fun _ => u
theorem predsL_mem {L : List NodeC} {roots ids : List IDE} {i u : Nat} : u ∈ predsL L roots ids i ↔ u ≤ ids.length ∧ ids.getD i ⟨0, 0⟩ ∈ outRefs L roots ids u := by
  unfold predsL
  simp only [List.mem_flatMap, List.mem_map, List.mem_filter, decide_eq_true_eq]
  constructor
  · rintro ⟨u', hu', y, ⟨h1, h2⟩, rfl⟩
    subst h2
    refine ⟨?_, h1⟩
    rcases List.mem_cons.1 hu' with e | h
    · omega
    · have := List.mem_range.1 h; omega
  · rintro ⟨h1, h2⟩
    refine ⟨u, ?_, _, ⟨h2, rfl⟩, rfl⟩
    by_cases e : u = ids.length
    · rw [e]; exact List.mem_cons_self
    · exact List.mem_cons_of_mem _ (List.mem_range.2 (by omega))
/-- What the search finds: the identities in the order in which it leaves them; each has its caller behind it. -/
structure Dfs (L : List NodeC) (roots ids : List IDE) : Prop where
  nodup : ids.Nodup
  mem : ∀ x, x ∈ ids ↔ Reach L roots x
  par : ∀ (i : Nat) (x : IDE), ids[i]? = some x → x ∈ roots ∨ ∃ (j : Nat) (y : IDE) (n : NodeC), i < j ∧ ids[j]? = some y ∧ firstN L y = some n ∧ x ∈ refsOf n
section
variable {L : List NodeC} {roots ids : List IDE}
theorem getD_of {α : Type} {l : List α} {i : Nat} {x d : α} (h : l[i]? = some x) : l.getD i d = x := by rw [List.getD_eq_getElem?_getD, h]; rfl
theorem get_lt {α : Type} {l : List α} {i : Nat} {x : α} (h : l[i]? = some x) : i < l.length := (List.getElem?_eq_some_iff.1 h).1
theorem nodup_idx {α : Type} {l : List α} (hn : l.Nodup) {i j : Nat} {x : α} (h1 : l[i]? = some x) (h2 : l[j]? = some x) : i = j := by
  obtain ⟨hi, e1⟩ := List.getElem?_eq_some_iff.1 h1
  obtain ⟨hj, e2⟩ := List.getElem?_eq_some_iff.1 h2
  have hp := List.pairwise_iff_getElem.1 hn
  rcases Nat.lt_trichotomy i j with h | h | h
  · exact absurd (e1.trans e2.symm) (hp i j hi hj h)
  · exact h
  · exact absurd (e2.trans e1.symm) (hp j i hj hi h)
theorem Dfs.out (h : Dfs L roots ids) {u : Nat} {x : IDE} {n : NodeC} (hu : ids[u]? = some x) (hn : firstN L x = some n) : outRefs L roots ids u = refsOf n := by
  unfold outRefs nodeAt
  rw [if_neg (by have := get_lt hu; omega), getD_of hu, hn]
  rfl
theorem Dfs.num (h : Dfs L roots ids) : NumG ids.length (predsL L roots ids) where
  le i hi p hp := (predsL_mem.1 hp).1
  up i hi := by
    obtain ⟨x, hx⟩ : ∃ x, ids[i]? = some x := ⟨_, List.getElem?_eq_getElem hi⟩
    rcases h.par i x hx with hr | ⟨j, y, n, hj, hy, hn, hxn⟩
    · exact ⟨ids.length, predsL_mem.2 ⟨Nat.le_refl _, by rw [getD_of hx]; unfold outRefs; rw [if_pos rfl]; exact hr⟩, hi⟩
    · exact ⟨j, predsL_mem.2 ⟨Nat.le_of_lt (get_lt hy), by rw [getD_of hx, h.out hy hn]; exact hxn⟩, hj⟩
/-- Paths of numbers that avoid k are paths of identities that avoid the k-th. -/
theorem Dfs.via (h : Dfs L roots ids) {k : Nat} {x : IDE} (hk : ids[k]? = some x) {j : Nat} {y : IDE} (hj : ids[j]? = some y) : Via ids.length (predsL L roots ids) (· ≠ k) ids.length j ↔ Reach (woN L x) roots y := by
  have hnode : ∀ {i : Nat} {z : IDE}, ids[i]? = some z → ∃ n, firstN L z = some n := fun hz => Option.isSome_iff_exists.1 ((h.mem _).1 (List.mem_of_getElem? hz)).node
  have hsome : ∀ {i : Nat} {z : IDE}, ids[i]? = some z → i ≠ k → (firstN (woN L x) z).isSome := fun hz hne => by
    obtain ⟨n, hn⟩ := hnode hz
    rw [firstN_wo, if_neg (fun e => hne (nodup_idx h.nodup hz (by rw [e]; exact hk))), hn]; rfl
  constructor
  · intro hv
    have key : ∀ v, Via ids.length (predsL L roots ids) (· ≠ k) ids.length v → ∀ z, ids[v]? = some z → Reach (woN L x) roots z := fun v hv => by
      induction hv with
      | refl _ => intro z hz; have := get_lt hz; omega
      | @step u v hu h1 h2 h3 ih =>
        intro z hz
        obtain ⟨h4, h5⟩ := predsL_mem.1 h1
        rw [getD_of hz] at h5
        by_cases e : u = ids.length
        · unfold outRefs at h5
          rw [if_pos e] at h5
          exact .root h5 (hsome hz h3)
        · obtain ⟨w, hw⟩ : ∃ w, ids[u]? = some w := ⟨_, List.getElem?_eq_getElem (by omega)⟩
          obtain ⟨n, hn⟩ := hnode hw
          rw [h.out hw hn] at h5
          have hwx : w ≠ x := fun e' => hu.fin (nodup_idx h.nodup hw (by rw [e']; exact hk))
          exact .step (ih w hw) (by rw [firstN_wo, if_neg hwx, hn]) h5 (hsome hz h3)
    exact key j hv y hj
  · intro hr
    have key : ∀ z, Reach (woN L x) roots z → ∃ v, ids[v]? = some z ∧ Via ids.length (predsL L roots ids) (· ≠ k) ids.length v := fun z hz => by
      have hkt : ids.length ≠ k := by have := get_lt hk; omega
      have hz0 := hz
      induction hz with
      | @root r hr hs =>
        obtain ⟨h1, h2⟩ := reach_wo hz0
        obtain ⟨v, hv⟩ := List.getElem?_of_mem ((h.mem _).2 h1)
        refine ⟨v, hv, .step (.refl hkt) (predsL_mem.2 ⟨Nat.le_refl _, ?_⟩) (get_lt hv) (fun e => h2 (by rw [e] at hv; rw [hv] at hk; injection hk))⟩
        rw [getD_of hv]; unfold outRefs; rw [if_pos rfl]; exact hr
      | @step a z n ha hn hy hs ih =>
        obtain ⟨h1, h2⟩ := reach_wo hz0
        obtain ⟨u, hu, hvu⟩ := ih ha
        obtain ⟨v, hv⟩ := List.getElem?_of_mem ((h.mem _).2 h1)
        have hn' : firstN L a = some n := by
          rw [firstN_wo] at hn
          split at hn
          · cases hn
          · exact hn
        refine ⟨v, hv, .step hvu (predsL_mem.2 ⟨Nat.le_of_lt (get_lt hu), ?_⟩) (get_lt hv) (fun e => h2 (by rw [e] at hv; rw [hv] at hk; injection hk))⟩
        rw [getD_of hv, h.out hu hn']; exact hy
    obtain ⟨v, hv, hvv⟩ := key y hr
    rwa [nodup_idx h.nodup hv hj] at hvv
theorem Dfs.dom (h : Dfs L roots ids) {k j : Nat} {x y : IDE} (hk : ids[k]? = some x) (hj : ids[j]? = some y) : Dom ids.length (predsL L roots ids) k j ↔ ¬ Reach (woN L x) roots y := not_congr (h.via hk hj)
end
/-! ### What the search keeps while it runs -/
/-- ids are left, prog are not left yet (the last called first). -/
structure DfsI (L : List NodeC) (roots ids prog : List IDE) : Prop where
  nodup : (ids ++ prog).Nodup
  sound : ∀ x, x ∈ ids ∨ x ∈ prog → Reach L roots x
  closed : ∀ x ∈ ids, ∀ n, firstN L x = some n → ∀ y ∈ refsOf n, (firstN L y).isSome → y ∈ ids ∨ y ∈ prog
  par : ∀ (i : Nat) (x : IDE), ids[i]? = some x → x ∈ roots ∨ ∃ (y : IDE) (n : NodeC), firstN L y = some n ∧ x ∈ refsOf n ∧ (y ∈ prog ∨ ∃ j, i < j ∧ ids[j]? = some y)
  ppar : ∀ (i : Nat) (x : IDE), prog[i]? = some x → x ∈ roots ∨ ∃ (y : IDE) (n : NodeC) (j : Nat), firstN L y = some n ∧ x ∈ refsOf n ∧ i < j ∧ prog[j]? = some y
theorem DfsI.start (L : List NodeC) (roots : List IDE) : DfsI L roots [] [] :=
  ⟨by simp, (fun x h => by rcases h with h | h <;> cases h), (fun x h => by cases h), (fun i x h => by cases h), (fun i x h => by cases h)⟩
section
variable {L : List NodeC} {roots ids prog : List IDE} {x : IDE}
theorem DfsI.push (h : DfsI L roots ids prog) (hx : (firstN L x).isSome) (h1 : x ∉ ids) (h2 : x ∉ prog) (hp : x ∈ roots ∨ ∃ y n, prog[0]? = some y ∧ firstN L y = some n ∧ x ∈ refsOf n) : DfsI L roots ids (x :: prog) where
  nodup := by
    rw [List.nodup_append] at *
    obtain ⟨a, b, c⟩ := h.nodup |> List.nodup_append.1
    refine ⟨a, List.nodup_cons.2 ⟨h2, b⟩, fun u hu v hv e => ?_⟩
    rcases List.mem_cons.1 hv with rfl | hv
    · exact h1 (e ▸ hu)
    · exact c u hu v hv e
  sound z hz := by
    rcases hz with hz | hz
    · exact h.sound z (.inl hz)
    · rcases List.mem_cons.1 hz with rfl | hz
      · rcases hp with hr | ⟨y, n, hy, hn, hr⟩
        · exact .root hr hx
        · exact .step (h.sound y (.inr (List.mem_of_getElem? hy))) hn hr hx
      · exact h.sound z (.inr hz)
  closed z hz n hn y hy hs := (h.closed z hz n hn y hy hs).imp id (List.mem_cons_of_mem _)
  par i z hz := (h.par i z hz).imp id fun ⟨y, n, a, b, c⟩ => ⟨y, n, a, b, c.imp (List.mem_cons_of_mem _) id⟩
  ppar i z hz := by
    cases i with
    | zero =>
      simp only [List.getElem?_cons_zero, Option.some.injEq] at hz
      subst hz
      exact hp.imp id fun ⟨y, n, a, b, c⟩ => ⟨y, n, 1, b, c, by omega, by simpa using a⟩
    | succ i =>
      rw [List.getElem?_cons_succ] at hz
      exact (h.ppar i z hz).imp id fun ⟨y, n, j, a, b, c, e⟩ => ⟨y, n, j + 1, a, b, by omega, by simpa using e⟩
theorem DfsI.pop (h : DfsI L roots ids (x :: prog)) {n : NodeC} (hn : firstN L x = some n) (hr : ∀ y ∈ refsOf n, (firstN L y).isSome → y ∈ ids ∨ y ∈ x :: prog) : DfsI L roots (ids ++ [x]) prog where
  nodup := by
    have := h.nodup
    rw [List.append_assoc]; exact this
  sound z hz := by
    rcases hz with hz | hz
    · rcases List.mem_append.1 hz with hz | hz
      · exact h.sound z (.inl hz)
      · exact h.sound z (.inr (by rw [List.mem_singleton.1 hz]; exact List.mem_cons_self))
    · exact h.sound z (.inr (List.mem_cons_of_mem _ hz))
  closed z hz m hm y hy hs := by
    have key : y ∈ ids ∨ y ∈ x :: prog → y ∈ ids ++ [x] ∨ y ∈ prog := fun hk => by
      rcases hk with hk | hk
      · exact .inl (List.mem_append_left _ hk)
      · rcases List.mem_cons.1 hk with rfl | hk
        · exact .inl (List.mem_append_right _ (by simp))
        · exact .inr hk
    rcases List.mem_append.1 hz with hz | hz
    · exact key (h.closed z hz m hm y hy hs)
    · rw [List.mem_singleton.1 hz, hn] at hm
      injection hm with hm
      subst hm
      exact key (hr y hy hs)
  par i z hz := by
    by_cases hi : i < ids.length
    · rw [List.getElem?_append_left hi] at hz
      rcases h.par i z hz with a | ⟨y, m, a, b, c⟩
      · exact .inl a
      · refine .inr ⟨y, m, a, b, ?_⟩
        rcases c with c | ⟨j, c, e⟩
        · rcases List.mem_cons.1 c with rfl | c
          · exact .inr ⟨ids.length, hi, by simp⟩
          · exact .inl c
        · exact .inr ⟨j, c, by rw [List.getElem?_append_left (get_lt e)]; exact e⟩
    · have hil := get_lt hz
      simp only [List.length_append, List.length_singleton] at hil
      have e : i = ids.length := by omega
      subst e
      simp at hz
      subst hz
      rcases h.ppar 0 x (by simp) with a | ⟨y, m, j, a, b, c, e⟩
      · exact .inl a
      · obtain ⟨j', rfl⟩ : ∃ j', j = j' + 1 := ⟨j - 1, by omega⟩
        exact .inr ⟨y, m, a, b, .inl (List.mem_of_getElem? (by simpa using e))⟩
  ppar i z hz := by
    rcases h.ppar (i + 1) z (by simpa using hz) with a | ⟨y, m, j, a, b, c, e⟩
    · exact .inl a
    · obtain ⟨j', rfl⟩ : ∃ j', j = j' + 1 := ⟨j - 1, by omega⟩
      exact .inr ⟨y, m, j', a, b, by omega, by simpa using e⟩
theorem DfsI.room (h : DfsI L roots ids prog) : ids.length + prog.length ≤ L.length := by
  have := reach_len (l := L) h.nodup fun z hz => firstN_ids.1 (h.sound z (List.mem_append.1 hz)).node
  rwa [List.length_append] at this
theorem DfsI.done (h : DfsI L roots ids []) (hr : ∀ r ∈ roots, (firstN L r).isSome → r ∈ ids) : Dfs L roots ids where
  nodup := by have := h.nodup; rwa [List.append_nil] at this
  mem z := by
    constructor
    · exact fun hz => h.sound z (.inl hz)
    · intro hz
      induction hz with
      | root h1 h2 => exact hr _ h1 h2
      | step _ hn hy hs ih =>
        rcases h.closed _ ih _ hn _ hy hs with h1 | h1
        · exact h1
        · cases h1
  par i z hz := (h.par i z hz).imp id fun ⟨y, n, a, b, c⟩ => by
    rcases c with c | ⟨j, c, e⟩
    · cases c
    · exact ⟨j, y, n, c, e, a, b⟩
end
end Go.Proofs.Ytffnogjgnpbjlaa

namespace Go.Proofs.Ytffnogjgnpbjlaa
/-- x retains y. -/
def RetP (L : List NodeC) (roots : List IDE) (x y : IDE) : Prop := Reach L roots y ∧ ¬ Reach (woN L x) roots y
/-- The retained identities, in order. -/
def RetL (L : List NodeC) (roots : List IDE) (x : IDE) (q : List IDE) : Prop := SortedI q ∧ ∀ y, y ∈ q ↔ RetP L roots x y
/-- z is y's immediate dominator (the zero identity where there is none). -/
def IdomZ (L : List NodeC) (roots : List IDE) (y z : IDE) : Prop :=
  (z = ⟨0, 0⟩ ∧ ∀ x, RetP L roots x y → x = y) ∨ (RetP L roots z y ∧ z ≠ y ∧ ∀ x, RetP L roots x y → x ≠ y → RetP L roots x z)
/-- The tree that the search leaves. -/
structure TreeOk (L : List NodeC) (roots ids : List IDE) (d : Nat → Int) : Prop where
  dfs : Dfs L roots ids
  dend : DomEnd ids.length (predsL L roots ids) d
variable {L : List NodeC} {roots ids : List IDE} {d : Nat → Int} {x y z : IDE} {i j k : Nat}
theorem RetL.unique {q q' : List IDE} (h : RetL L roots x q) (h' : RetL L roots x q') : q = q' := sortedI_unique h.1 h'.1 fun y => (h.2 y).trans (h'.2 y).symm
theorem reach_keep {L : List NodeC} (hx : ¬ Reach L roots x) (h : Reach L roots y) : Reach (woN L x) roots y := by
  induction h with
  | @root r hr hs =>
    have : r ≠ x := fun e => hx (e ▸ .root hr hs)
    exact .root hr (by rw [firstN_wo, if_neg this]; exact hs)
  | @step a y n ha hn hy hs ih =>
    have h1 : a ≠ x := fun e => hx (e ▸ ha)
    have h2 : y ≠ x := fun e => hx (e ▸ .step ha hn hy hs)
    exact .step ih (by rw [firstN_wo, if_neg h1]; exact hn) hy (by rw [firstN_wo, if_neg h2]; exact hs)
theorem RetP.reach (h : RetP L roots x y) : Reach L roots x := Classical.byContradiction fun hx => h.2 (reach_keep hx h.1)
theorem RetP.refl (h : Reach L roots x) : RetP L roots x x := ⟨h, fun hr => (reach_wo hr).2 rfl⟩
theorem TreeOk.num (T : TreeOk L roots ids d) (h : Reach L roots x) : ∃ i : Nat, ids[i]? = some x := List.getElem?_of_mem ((T.dfs.mem x).2 h)
theorem TreeOk.ret (T : TreeOk L roots ids d) (hi : ids[i]? = some y) (hk : ids[k]? = some x) : Anc d i k ↔ RetP L roots x y := by
  rw [T.dend.anc i k (Nat.le_of_lt (get_lt hi)), T.dfs.dom hk hi]
  exact ⟨fun h => ⟨(T.dfs.mem y).1 (List.mem_of_getElem? hi), h⟩, fun h => h.2⟩
theorem TreeOk.trans (T : TreeOk L roots ids d) (h : RetP L roots x y) (h' : RetP L roots y z) : RetP L roots x z := by
  obtain ⟨a, ha⟩ := T.num h.reach
  obtain ⟨b, hb⟩ := T.num h.1
  obtain ⟨c, hc⟩ := T.num h'.1
  exact (T.ret hc ha).1 (((T.ret hc hb).2 h').trans ((T.ret hb ha).2 h))
theorem TreeOk.anti (T : TreeOk L roots ids d) (h : RetP L roots x y) (h' : RetP L roots y x) : x = y := by
  obtain ⟨a, ha⟩ := T.num h.reach
  obtain ⟨b, hb⟩ := T.num h.1
  have e := T.dend.inv.anti ((T.ret ha hb).2 h') ((T.ret hb ha).2 h) (Nat.le_of_lt (get_lt ha))
  subst e
  exact Option.some.inj (ha.symm.trans hb)
theorem TreeOk.line (T : TreeOk L roots ids d) (h : RetP L roots x z) (h' : RetP L roots y z) : RetP L roots x y ∨ RetP L roots y x := by
  obtain ⟨a, ha⟩ := T.num h.reach
  obtain ⟨b, hb⟩ := T.num h'.reach
  obtain ⟨c, hc⟩ := T.num h.1
  rcases ((T.ret hc ha).2 h).line ((T.ret hc hb).2 h') with h1 | h1
  · exact .inr ((T.ret ha hb).1 h1)
  · exact .inl ((T.ret hb ha).1 h1)
theorem TreeOk.idomZ_unique (T : TreeOk L roots ids d) {z z' : IDE} (h : IdomZ L roots y z) (h' : IdomZ L roots y z') : z = z' := by
  rcases h with ⟨e, h1⟩ | ⟨h1, h2, h3⟩ <;> rcases h' with ⟨e', h1'⟩ | ⟨h1', h2', h3'⟩
  · rw [e, e']
  · exact absurd (h1 _ h1') h2'
  · exact absurd (h1' _ h1) h2
  · exact (T.anti (h3 _ h1' h2') (h3' _ h1 h2)).symm
/-- What the program answers: the identity of the list's number. -/
theorem TreeOk.idomZ (T : TreeOk L roots ids d) (hi : ids[i]? = some y) : IdomZ L roots y (ids.getD (d i).toNat ⟨0, 0⟩) := by
  obtain ⟨u, e, h1, h2⟩ := T.dend.next (get_lt hi)
  rw [e, Int.toNat_natCast]
  by_cases hu : u = ids.length
  · refine .inl ⟨?_, fun x hx => ?_⟩
    · rw [List.getD_eq_getElem?_getD, List.getElem?_eq_none (by omega)]; rfl
    · obtain ⟨k, hk⟩ := T.num hx.reach
      rcases ((T.ret hi hk).2 hx).cases' with e' | ⟨u', h3, h4⟩
      · subst e'; exact Option.some.inj (hk.symm.trans hi)
      · have : u' = ids.length := by omega
        subst this
        have h5 := T.dend.inv.anc_top h4
        have := get_lt hk
        omega
  · obtain ⟨w, hw⟩ : ∃ w, ids[u]? = some w := ⟨_, List.getElem?_eq_getElem (by omega)⟩
    rw [getD_of hw]
    refine .inr ⟨(T.ret hi hw).1 (.up e .refl), fun e' => ?_, fun x hx hne => ?_⟩
    · subst e'
      have := nodup_idx T.dfs.nodup hw hi
      omega
    · obtain ⟨k, hk⟩ := T.num hx.reach
      rcases ((T.ret hi hk).2 hx).cases' with e' | ⟨u', h3, h4⟩
      · subst e'; exact absurd (Option.some.inj (hk.symm.trans hi)) hne
      · have : u' = u := by omega
        subst this
        exact (T.ret hw hk).1 h4
/-- An inner one retains less. -/
theorem TreeOk.less (T : TreeOk L roots ids d) {q q' : List IDE} (h : RetP L roots x y) (hne : x ≠ y) (hq : RetL L roots x q) (hq' : RetL L roots y q') : q'.length < q.length := by
  have h1 : (x :: q').length ≤ q.length := nodup_len (List.nodup_cons.2 ⟨fun hx => hne (T.anti h ((hq'.2 x).1 hx)), hq'.1.nodup⟩) fun z hz => by
    rcases List.mem_cons.1 hz with rfl | hz
    · exact (hq.2 _).2 (.refl h.reach)
    · exact (hq.2 z).2 (T.trans h ((hq'.2 z).1 hz))
  rw [List.length_cons] at h1
  omega
/-- The reference's choice: the one of the others that retain y that retains least. -/
theorem TreeOk.least (T : TreeOk L roots ids d) {z : IDE} {q : List IDE} (hz : RetP L roots z y) (hne : z ≠ y) (hq : RetL L roots z q) (hmin : ∀ x p, RetP L roots x y → x ≠ y → RetL L roots x p → q.length ≤ p.length) (hex : ∀ x, Reach L roots x → ∃ p, RetL L roots x p) : IdomZ L roots y z := by
  refine .inr ⟨hz, hne, fun x hx hxy => ?_⟩
  rcases T.line hx hz with h | h
  · exact h
  · by_cases e : z = x
    · subst e; exact .refl hz.reach
    · obtain ⟨p, hp⟩ := hex x hx.reach
      have := T.less h e hq hp
      have := hmin x p hx hxy hp
      omega
theorem retL_exists (L : List NodeC) (roots : List IDE) (x : IDE) : ∃ q, RetL L roots x q := by
  classical
  have h0 : ∃ q, ReachL L roots q := by
    let m := (ids L).filter fun y => decide (Reach L roots y)
    refine ⟨setI m, setI_sorted _, fun y => ?_⟩
    rw [setI_mem, List.mem_filter]
    constructor
    · intro h; simpa using h.2
    · intro h; exact ⟨firstN_ids.1 h.node, by simpa using h⟩
  obtain ⟨q, hq⟩ := h0
  refine ⟨q.filter fun y => decide (¬ Reach (woN L x) roots y), List.Pairwise.filter _ hq.1, fun y => ?_⟩
  rw [List.mem_filter, hq.2]
  simp [RetP]
end Go.Proofs.Ytffnogjgnpbjlaa

namespace Go.Proofs.Ytffnogjgnpbjlaa
theorem perm_of_mem {α : Type} [DecidableEq α] : ∀ {a b : List α}, a.Nodup → b.Nodup → (∀ x, x ∈ a ↔ x ∈ b) → a.Perm b
  | [], b, _, _, h => by
    cases b with
    | nil => exact .refl _
    | cons y b => exact absurd ((h y).2 List.mem_cons_self) (by simp)
  | x :: a, b, ha, hb, h => by
    obtain ⟨h1, h2⟩ := List.nodup_cons.1 ha
    have hx := (h x).1 List.mem_cons_self
    refine (List.Perm.cons x (perm_of_mem h2 (hb.erase x) fun y => ?_)).trans (List.perm_cons_erase hx).symm
    rw [hb.mem_erase_iff]
    constructor
    · intro hy
      exact ⟨fun e => h1 (e ▸ hy), (h y).1 (List.mem_cons_of_mem _ hy)⟩
    · rintro ⟨hne, hy⟩
      rcases List.mem_cons.1 ((h y).2 hy) with e | e
      · exact absurd e hne
      · exact e
variable {top : Nat} {P : Nat → List Nat} {d : Nat → Int} {w : Nat → Int} {v x i j k : Nat}
open Classical in
/-- The numbers below j. -/
noncomputable def under (top : Nat) (d : Nat → Int) (j : Nat) : List Nat := (List.range top).filter fun v => decide (Anc d v j)
theorem under_mem : v ∈ under top d j ↔ v < top ∧ Anc d v j := by
  classical
  simp [under]
theorem under_nodup : (under top d j).Nodup := by
  classical
  exact List.Pairwise.filter _ List.nodup_range
noncomputable def szD (top : Nat) (d : Nat → Int) (w : Nat → Int) (j : Nat) : Int := ((under top d j).map w).sum
def kids (n : Nat) (d : Nat → Int) (j : Nat) : List Nat := (List.range n).filter fun c => decide (d c = (j : Int))
theorem kids_mem {n : Nat} : v ∈ kids n d j ↔ v < n ∧ d v = (j : Int) := by simp [kids]
theorem sum_flat {α : Type} {f : α → List Nat} {w : Nat → Int} : ∀ l : List α, ((l.flatMap f).map w).sum = (l.map fun a => ((f a).map w).sum).sum
  | [] => rfl
  | a :: l => by rw [List.flatMap_cons, List.map_append, List.sum_append, sum_flat l, List.map_cons, List.sum_cons]
theorem sum_perm : ∀ {a b : List Int}, a.Perm b → a.sum = b.sum := fun h => by
  induction h with
  | nil => rfl
  | cons x _ ih => rw [List.sum_cons, List.sum_cons, ih]
  | swap x y l => simp only [List.sum_cons]; omega
  | trans _ _ h1 h2 => exact h1.trans h2
theorem DomEnd.under_perm (h : DomEnd top P d) (hj : j < top) : (under top d j).Perm (j :: (kids top d j).flatMap (under top d)) := by
  refine perm_of_mem under_nodup (List.nodup_cons.2 ⟨fun hm => ?_, ?_⟩) fun v => ?_
  · obtain ⟨c, hc, hm⟩ := List.mem_flatMap.1 hm
    obtain ⟨h1, h2⟩ := kids_mem.1 hc
    have h3 := (under_mem.1 hm).2
    have h4 := h.inv.anc_le h3 (by omega)
    have := h.inv.next h1 h2
    omega
  · refine List.pairwise_flatMap.2 ⟨fun c _ => under_nodup, ?_⟩
    have hp : (kids top d j).Pairwise (· ≠ ·) := List.Pairwise.filter _ List.nodup_range
    refine List.Pairwise.imp_of_mem (fun {a b} ha hb hne v hv u hu e => ?_) hp
    subst e
    obtain ⟨a1, a2⟩ := kids_mem.1 ha
    obtain ⟨b1, b2⟩ := kids_mem.1 hb
    have na := h.inv.next a1 a2
    have nb := h.inv.next b1 b2
    rcases (under_mem.1 hv).2.line (under_mem.1 hu).2 with h1 | h1
    · rcases h1.cases' with e | ⟨u', h2, h3⟩
      · exact hne e.symm
      · have : u' = j := by omega
        subst this
        have := h.inv.anc_le h3 (by omega)
        omega
    · rcases h1.cases' with e | ⟨u', h2, h3⟩
      · exact hne e
      · have : u' = j := by omega
        subst this
        have := h.inv.anc_le h3 (by omega)
        omega
  · rw [under_mem, List.mem_cons, List.mem_flatMap]
    constructor
    · rintro ⟨h1, h2⟩
      by_cases e : v = j
      · exact .inl e
      · right
        have key : ∀ {a b : Nat}, Anc d a b → a < top → b = j → a ≠ j → ∃ c, (c < top ∧ d c = (j : Int)) ∧ Anc d a c := fun {a b} hab => by
          induction hab with
          | refl => exact fun _ e ne => absurd e ne
          | @up a u b h3 h4 ih =>
            intro ha hb hne
            have hn := h.inv.next ha h3
            by_cases eu : u = j
            · subst eu; exact ⟨a, ⟨ha, h3⟩, .refl⟩
            · have hu : u < top := by
                have := h.inv.anc_le h4 hn.2.1
                omega
              obtain ⟨c, hc, hac⟩ := ih hu hb eu
              exact ⟨c, hc, .up h3 hac⟩
        obtain ⟨c, hc, hvc⟩ := key h2 h1 rfl e
        exact ⟨c, kids_mem.2 hc, under_mem.2 ⟨h1, hvc⟩⟩
    · rintro (e | ⟨c, hc, hv⟩)
      · rw [e]; exact ⟨hj, .refl⟩
      · obtain ⟨h1, h2⟩ := kids_mem.1 hc
        obtain ⟨h3, h4⟩ := under_mem.1 hv
        exact ⟨h3, h4.trans (.up h2 .refl)⟩
/-- A size is the own words and the sizes of those immediately below. -/
theorem DomEnd.size (h : DomEnd top P d) (hj : j < top) : szD top d w j = w j + ((kids top d j).map (szD top d w)).sum := by
  unfold szD
  rw [sum_perm ((h.under_perm hj).map w), List.map_cons, List.sum_cons, sum_flat]
/-- What stands in the list of sizes after i steps. -/
noncomputable def accD (top : Nat) (d : Nat → Int) (w : Nat → Int) (i j : Nat) : Int := (if j < i then w j else 0) + ((kids i d j).map (szD top d w)).sum
theorem kids_succ : kids (i + 1) d j = kids i d j ++ (if d i = (j : Int) then [i] else []) := by
  unfold kids
  rw [List.range_succ, List.filter_append]
  by_cases h : d i = (j : Int)
  · simp [h]
  · simp [h]
theorem DomEnd.kids_all (h : DomEnd top P d) (hi : i ≤ top) (hj : j ≤ i) (hjt : j < top) : kids i d j = kids top d j := by
  have key : ∀ m, i + m ≤ top → kids (i + m) d j = kids i d j := fun m => by
    induction m with
    | zero => exact fun _ => rfl
    | succ m ih =>
      intro hm
      rw [← Nat.add_assoc, kids_succ, ih (by omega), if_neg, List.append_nil]
      intro e
      have := h.inv.next (by omega) e
      omega
  have := key (top - i) (by omega)
  rw [show i + (top - i) = top by omega] at this
  exact this.symm
theorem DomEnd.acc_zero : accD top d w 0 j = 0 := by simp [accD, kids]
theorem DomEnd.acc_self (h : DomEnd top P d) (hi : i < top) : accD top d w i i + w i = szD top d w i := by
  unfold accD
  rw [if_neg (by omega), h.kids_all (by omega) (Nat.le_refl _) hi, h.size hi]
  omega
theorem DomEnd.acc_end (h : DomEnd top P d) (hj : j < top) : accD top d w top j = szD top d w j := by
  unfold accD
  rw [if_pos hj, h.size hj]
theorem DomEnd.acc_succ (h : DomEnd top P d) (hi : i < top) (j : Nat) : accD top d w (i + 1) j = if j = i then szD top d w i else if d i = (j : Int) then accD top d w i j + szD top d w i else accD top d w i j := by
  obtain ⟨u, e, h1, h2⟩ := h.next hi
  by_cases e1 : j = i
  · subst e1
    rw [if_pos rfl, ← h.acc_self hi]
    unfold accD
    rw [kids_succ, if_neg (by omega : ¬ d j = (j : Int)), List.append_nil, if_pos (by omega), if_neg (by omega)]
    omega
  · rw [if_neg e1]
    unfold accD
    rw [kids_succ]
    have e2 : (j < i + 1) = (j < i) := by apply propext; omega
    rw [show (if j < i + 1 then w j else 0) = if j < i then w j else 0 by simp only [e2]]
    by_cases e3 : d i = (j : Int)
    · rw [if_pos e3, if_pos e3, List.map_append, List.sum_append]
      simp
      omega
    · rw [if_neg e3, if_neg e3, List.append_nil]
end Go.Proofs.Ytffnogjgnpbjlaa

namespace Go.Proofs.Ytffnogjgnpbjlaa
variable {L : List NodeC} {roots ids : List IDE} {d : Nat → Int} {x y z : IDE} {i j k : Nat}
/-! ### Words -/
def wordsN (n : NodeC) : Int := 2 + max 2 (n.fields.length : Int)
def wordsI (L : List NodeC) (y : IDE) : Int := match firstN L y with | some n => wordsN n | none => 0
def sumW (L : List NodeC) (q : List IDE) : Int := (q.map (wordsI L)).sum
/-- The words of what x retains. -/
def SizeP (L : List NodeC) (roots : List IDE) (x : IDE) (s : Int) : Prop := ∀ q, RetL L roots x q → s = sumW L q
theorem SizeP.unique {s s' : Int} (h : SizeP L roots x s) (h' : SizeP L roots x s') : s = s' := by
  obtain ⟨q, hq⟩ := retL_exists L roots x
  rw [h q hq, h' q hq]
theorem sumW_nil : sumW L [] = 0 := rfl
theorem sumW_snoc {q : List IDE} : sumW L (q ++ [y]) = sumW L q + wordsI L y := by simp [sumW]
theorem wordsI_bounds (L : List NodeC) (y : IDE) : 0 ≤ wordsI L y ∧ wordsI L y ≤ 4 + (fieldsN L : Int) := by
  unfold wordsI
  split
  · rename_i n hn
    have := fieldsN_le (firstN_some hn).1
    unfold wordsN
    omega
  · omega
theorem sumW_nonneg : ∀ q : List IDE, 0 ≤ sumW L q
  | [] => Int.le_refl _
  | y :: q => by
    have h1 := sumW_nonneg q
    have h2 := (wordsI_bounds L y).1
    simp only [sumW, List.map_cons, List.sum_cons] at *; omega
theorem sumW_le : ∀ q : List IDE, sumW L q ≤ q.length * (4 + (fieldsN L : Int))
  | [] => by simp [sumW]
  | y :: q => by
    have h1 := sumW_le q
    have h2 := (wordsI_bounds L y).2
    simp only [sumW, List.map_cons, List.sum_cons, List.length_cons] at *
    have e : (((q.length + 1 : Nat) : Int)) * (4 + (fieldsN L : Int)) = (q.length : Int) * (4 + (fieldsN L : Int)) + (4 + (fieldsN L : Int)) := by
      rw [Int.natCast_add, Int.add_mul]; simp
    omega
theorem sumW_perm {q q' : List IDE} (h : q.Perm q') : sumW L q = sumW L q' := sum_perm (h.map _)
/-- The identities below the i-th are what it retains. -/
def idsAt (ids : List IDE) (l : List Nat) : List IDE := l.map fun v => ids.getD v ⟨0, 0⟩
theorem TreeOk.under_ret (T : TreeOk L roots ids d) (hk : ids[k]? = some x) {q : List IDE} (hq : RetL L roots x q) : (idsAt ids (under ids.length d k)).Perm q := by
  refine perm_of_mem ?_ hq.1.nodup fun y => ?_
  · refine List.pairwise_map.2 (List.Pairwise.imp_of_mem (fun {a b} ha hb hne e => hne ?_) under_nodup)
    have h1 := List.getElem?_eq_getElem (under_mem.1 ha).1
    have h2 := List.getElem?_eq_getElem (under_mem.1 hb).1
    rw [getD_of h1, getD_of h2] at e
    rw [e] at h1
    exact nodup_idx T.dfs.nodup h1 h2
  · rw [hq.2]
    constructor
    · intro h
      obtain ⟨v, hv, e⟩ := List.mem_map.1 h
      obtain ⟨h1, h2⟩ := under_mem.1 hv
      have h3 := List.getElem?_eq_getElem h1
      rw [getD_of h3] at e
      rw [e] at h3
      exact (T.ret h3 hk).1 h2
    · intro h
      obtain ⟨v, hv⟩ := T.num h.1
      exact List.mem_map.2 ⟨v, under_mem.2 ⟨get_lt hv, (T.ret hv hk).2 h⟩, getD_of hv⟩
def wAt (L : List NodeC) (ids : List IDE) (v : Nat) : Int := wordsI L (ids.getD v ⟨0, 0⟩)
theorem TreeOk.size (T : TreeOk L roots ids d) (hk : ids[k]? = some x) : SizeP L roots x (szD ids.length d (wAt L ids) k) := fun q hq => by
  rw [← sumW_perm (T.under_ret hk hq)]
  unfold szD sumW idsAt
  rw [List.map_map]
  rfl
/-! ### Removal -/
theorem removal_one {l less : List IDE} (hl : RetL L roots x l) (hw : ReachL (woN L x) roots less) (hy : Reach L roots y) : decide (y ∈ l) = !decide (y ∈ less) := by
  by_cases h : y ∈ less
  · rw [decide_eq_true h, decide_eq_false (fun h' => ((hl.2 y).1 h').2 ((hw.2 y).1 h))]; rfl
  · rw [decide_eq_false h, decide_eq_true ((hl.2 y).2 ⟨hy, fun h' => h ((hw.2 y).2 h')⟩)]; rfl
theorem removal_len {l less all : List IDE} (hl : RetL L roots x l) (hw : ReachL (woN L x) roots less) (ha : ReachL L roots all) : l.length + less.length = all.length := by
  have h : (l ++ less).Perm all := by
    refine perm_of_mem (List.nodup_append.2 ⟨hl.1.nodup, hw.1.nodup, fun a h1 b h2 e => ?_⟩) ha.1.nodup fun y => ?_
    · subst e; exact ((hl.2 a).1 h1).2 ((hw.2 a).1 h2)
    · rw [List.mem_append, hl.2, hw.2, ha.2]
      constructor
      · rintro (h | h)
        · exact h.1
        · exact (reach_wo h).1
      · intro h
        by_cases h' : Reach (woN L x) roots y
        · exact .inr h'
        · exact .inl ⟨h, h'⟩
  have := h.length_eq
  rwa [List.length_append] at this
theorem ret_none {l : List IDE} (hl : RetL L roots x l) (h : ¬ Reach L roots x) : l = [] := by
  cases l with
  | nil => rfl
  | cons y l => exact absurd ((hl.2 y).1 List.mem_cons_self).reach h
theorem ret_has {l : List IDE} (hl : RetL L roots x l) : x ∈ l ↔ Reach L roots x := ⟨fun h => ((hl.2 x).1 h).1, fun h => (hl.2 x).2 (.refl h)⟩
/-! ### All objects as roots -/
abbrev nodeIds (L : List NodeC) : List IDE := Go.Proofs.Ytffnogjgnpbjlaa.ids L
theorem reach_every {L : List NodeC} {y : IDE} : Reach L (nodeIds L) y ↔ (firstN L y).isSome := ⟨Reach.node, fun h => .root (firstN_ids.1 h) h⟩
theorem every_ret {L : List NodeC} {x y : IDE} (h : RetP L (nodeIds L) x y) : x = y := by
  refine Classical.byContradiction fun hne => h.2 (.root (firstN_ids.1 h.1.node) ?_)
  rw [firstN_wo, if_neg (fun e => hne e.symm)]
  exact h.1.node
theorem every_retL {L : List NodeC} {x : IDE} {q : List IDE} (hq : RetL L (nodeIds L) x q) (hx : (firstN L x).isSome) : q = [x] := by
  have h1 : ∀ y, y ∈ q ↔ y = x := fun y => (hq.2 y).trans ⟨fun h => (every_ret h).symm, fun e => by rw [e]; exact .refl (reach_every.2 hx)⟩
  exact sortedI_unique hq.1 (List.pairwise_singleton _ _) fun y => (h1 y).trans (by simp)
theorem every_idom {L : List NodeC} {y z : IDE} (h : IdomZ L (nodeIds L) y z) : z = ⟨0, 0⟩ := by
  rcases h with ⟨e, _⟩ | ⟨h1, h2, _⟩
  · exact e
  · exact absurd (every_ret h1) h2
theorem every_reachL {L : List NodeC} {q : List IDE} (h : ReachL L (nodeIds L) q) : q = setI (nodeIds L) :=
  setI_unique h.1 fun x => (h.2 x).trans (reach_every.trans firstN_ids)
/-! ### Sums -/
/-- The answers of Dominators and Sizes. -/
def DomsL (L : List NodeC) (roots q r : List IDE) : Prop := r.length = q.length ∧ ∀ (k : Nat) (y : IDE), q[k]? = some y → ∃ z, r[k]? = some z ∧ IdomZ L roots y z
def SizesL (L : List NodeC) (roots q : List IDE) (s : List Int) : Prop := s.length = q.length ∧ ∀ (k : Nat) (y : IDE), q[k]? = some y → ∃ z, s[k]? = some z ∧ SizeP L roots y z
theorem DomsL.unique (T : TreeOk L roots ids d) {q r r' : List IDE} (h : DomsL L roots q r) (h' : DomsL L roots q r') : r = r' := by
  apply List.ext_getElem?
  intro k
  cases hq : q[k]? with
  | none =>
    have := List.getElem?_eq_none_iff.1 hq
    rw [List.getElem?_eq_none (by rw [h.1]; exact this), List.getElem?_eq_none (by rw [h'.1]; exact this)]
  | some y =>
    obtain ⟨z, h1, h2⟩ := h.2 k y hq
    obtain ⟨z', h1', h2'⟩ := h'.2 k y hq
    rw [h1, h1', T.idomZ_unique h2 h2']
theorem SizesL.unique {q : List IDE} {s s' : List Int} (h : SizesL L roots q s) (h' : SizesL L roots q s') : s = s' := by
  apply List.ext_getElem?
  intro k
  cases hq : q[k]? with
  | none =>
    have := List.getElem?_eq_none_iff.1 hq
    rw [List.getElem?_eq_none (by rw [h.1]; exact this), List.getElem?_eq_none (by rw [h'.1]; exact this)]
  | some y =>
    obtain ⟨z, h1, h2⟩ := h.2 k y hq
    obtain ⟨z', h1', h2'⟩ := h'.2 k y hq
    rw [h1, h1', h2.unique h2']
/-- The sum of those sizes whose dominator is x, over the first k. -/
def partS (r : List IDE) (s : List Int) (x : IDE) : Nat → Int
  | 0 => 0
  | k + 1 => partS r s x k + (if r[k]? = some x then s.getD k 0 else 0)
theorem partS_filter (r : List IDE) (s : List Int) (x : IDE) : ∀ k, partS r s x k = (((List.range k).filter fun m => decide (r[m]? = some x)).map fun m => s.getD m 0).sum
  | 0 => rfl
  | k + 1 => by
    rw [partS, partS_filter r s x k, List.range_succ, List.filter_append, List.map_append, List.sum_append]
    by_cases h : r[k]? = some x
    · simp [h]
    · simp [h]
end Go.Proofs.Ytffnogjgnpbjlaa

namespace Go.Proofs.Ytffnogjgnpbjlaa
theorem DomEnd.flat_nodup {top : Nat} {P : Nat → List Nat} {d : Nat → Int} (h : DomEnd top P d) (j : Nat) : ((kids top d j).flatMap (under top d)).Nodup := by
  refine List.pairwise_flatMap.2 ⟨fun c _ => under_nodup, ?_⟩
  have hp : (kids top d j).Pairwise (· ≠ ·) := List.Pairwise.filter _ List.nodup_range
  refine List.Pairwise.imp_of_mem (fun {a b} ha hb hne v hv u hu e => ?_) hp
  subst e
  obtain ⟨a1, a2⟩ := kids_mem.1 ha
  obtain ⟨b1, b2⟩ := kids_mem.1 hb
  have na := h.inv.next a1 a2
  have nb := h.inv.next b1 b2
  rcases (under_mem.1 hv).2.line (under_mem.1 hu).2 with h1 | h1
  · rcases h1.cases' with e | ⟨u', h2, h3⟩
    · exact hne e.symm
    · have : u' = j := by omega
      subst this
      have := h.inv.anc_le h3 (by omega)
      omega
  · rcases h1.cases' with e | ⟨u', h2, h3⟩
    · exact hne e
    · have : u' = j := by omega
      subst this
      have := h.inv.anc_le h3 (by omega)
      omega
theorem DomEnd.range_perm {top : Nat} {P : Nat → List Nat} {d : Nat → Int} (h : DomEnd top P d) : (List.range top).Perm ((kids top d top).flatMap (under top d)) := by
  refine perm_of_mem List.nodup_range (h.flat_nodup top) fun v => ?_
  rw [List.mem_range, List.mem_flatMap]
  constructor
  · intro hv
    have key : ∀ {a b : Nat}, Anc d a b → a < top → b = top → ∃ c, (c < top ∧ d c = (top : Int)) ∧ Anc d a c := fun {a b} hab => by
      induction hab with
      | refl => exact fun h1 e => by omega
      | @up a u b h3 h4 ih =>
        intro ha hb
        have hn := h.inv.next ha h3
        by_cases eu : u = top
        · subst eu; exact ⟨a, ⟨ha, h3⟩, .refl⟩
        · obtain ⟨c, hc, hac⟩ := ih (by omega) hb
          exact ⟨c, hc, .up h3 hac⟩
    obtain ⟨c, hc, hvc⟩ := key (h.inv.to_top (top - v) v (Nat.le_refl _) (Nat.le_of_lt hv) (h.def_ v (Nat.le_of_lt hv))) hv rfl
    exact ⟨c, kids_mem.2 hc, under_mem.2 ⟨hv, hvc⟩⟩
  · rintro ⟨c, _, hv⟩
    exact (under_mem.1 hv).1
theorem DomEnd.total {top : Nat} {P : Nat → List Nat} {d : Nat → Int} (h : DomEnd top P d) (w : Nat → Int) : ((List.range top).map w).sum = ((kids top d top).map (szD top d w)).sum := by
  rw [sum_perm (h.range_perm.map w), sum_flat]
  rfl
variable {L : List NodeC} {roots ids : List IDE} {d : Nat → Int} {x y z : IDE} {i j k : Nat}
noncomputable def sizeI (L : List NodeC) (roots : List IDE) (y : IDE) : Int := sumW L (Classical.choose (retL_exists L roots y))
theorem sizeP_iff {s : Int} : SizeP L roots y s ↔ s = sizeI L roots y := by
  have hc := Classical.choose_spec (retL_exists L roots y)
  constructor
  · exact fun h => h _ hc
  · intro e q hq
    rw [e, sizeI, hc.unique hq]
theorem TreeOk.sizeI (T : TreeOk L roots ids d) (hk : ids[k]? = some x) : szD ids.length d (wAt L ids) k = sizeI L roots x := sizeP_iff.1 (T.size hk)
theorem idsAt_get (hv : i < ids.length) : ids[i]? = some (ids.getD i ⟨0, 0⟩) := by
  rw [List.getD_eq_getElem?_getD, List.getElem?_eq_getElem hv]; rfl
/-- The objects whose dominator is the k-th, or the top: found by the answers' lists. -/
theorem TreeOk.kids_perm (T : TreeOk L roots ids d) {q r : List IDE} (hq : ReachL L roots q) (hr : DomsL L roots q r) (h0 : firstN L ⟨0, 0⟩ = none) {j : Nat} {x : IDE} (hj : (j = ids.length ∧ x = ⟨0, 0⟩) ∨ ids[j]? = some x) :
    (((List.range q.length).filter fun m => decide (r[m]? = some x)).map fun m => q.getD m ⟨0, 0⟩).Perm (idsAt ids (kids ids.length d j)) := by
  have hzero : ∀ {v : Nat}, ids[v]? ≠ some ⟨0, 0⟩ := fun {v} hv => by
    have := ((T.dfs.mem _).1 (List.mem_of_getElem? hv)).node
    rw [h0] at this; cases this
  have hdj : ∀ {c : Nat}, c < ids.length → (ids.getD (d c).toNat ⟨0, 0⟩ = x ↔ d c = (j : Int)) := fun {c} hc => by
    obtain ⟨u, e, h1, h2⟩ := T.dend.next hc
    rw [e, Int.toNat_natCast]
    rcases hj with ⟨h3, h4⟩ | h3
    · constructor
      · intro h
        by_cases hu : u = ids.length
        · omega
        · have := idsAt_get (ids := ids) (i := u) (by omega)
          rw [h, h4] at this
          exact absurd this hzero
      · intro h
        have : u = ids.length := by omega
        rw [List.getD_eq_getElem?_getD, List.getElem?_eq_none (by omega), h4]; rfl
    · constructor
      · intro h
        by_cases hu : u = ids.length
        · rw [List.getD_eq_getElem?_getD, List.getElem?_eq_none (by omega)] at h
          have h5 : x = ⟨0, 0⟩ := h.symm
          rw [h5] at h3
          exact absurd h3 hzero
        · have := idsAt_get (ids := ids) (i := u) (by omega)
          rw [h] at this
          rw [nodup_idx T.dfs.nodup this h3]
      · intro h
        have : u = j := by omega
        subst this
        exact getD_of h3
  refine perm_of_mem ?_ ?_ fun y => ?_
  · refine List.pairwise_map.2 (List.Pairwise.imp_of_mem (fun {a b} ha hb hne e => hne ?_) (List.Pairwise.filter _ List.nodup_range))
    have h1 := idsAt_get (ids := q) (List.mem_range.1 (List.mem_filter.1 ha).1)
    have h2 := idsAt_get (ids := q) (List.mem_range.1 (List.mem_filter.1 hb).1)
    rw [e] at h1
    exact nodup_idx hq.1.nodup h1 h2
  · refine List.pairwise_map.2 (List.Pairwise.imp_of_mem (fun {a b} ha hb hne e => hne ?_) (List.Pairwise.filter _ List.nodup_range))
    have h1 := idsAt_get (ids := ids) (kids_mem.1 ha).1
    have h2 := idsAt_get (ids := ids) (kids_mem.1 hb).1
    rw [e] at h1
    exact nodup_idx T.dfs.nodup h1 h2
  · constructor
    · intro h
      obtain ⟨m, hm, e⟩ := List.mem_map.1 h
      obtain ⟨h1, h2⟩ := List.mem_filter.1 hm
      have h3 := idsAt_get (ids := q) (List.mem_range.1 h1)
      rw [e] at h3
      obtain ⟨z, h4, h5⟩ := hr.2 m y h3
      have h6 : z = x := by
        have : r[m]? = some x := by simpa using h2
        rw [h4] at this; injection this
      subst h6
      obtain ⟨c, hc⟩ := T.num ((hq.2 y).1 (List.mem_of_getElem? h3))
      refine List.mem_map.2 ⟨c, kids_mem.2 ⟨get_lt hc, (hdj (get_lt hc)).1 (T.idomZ_unique (T.idomZ hc) h5)⟩, getD_of hc⟩
    · intro h
      obtain ⟨c, hc, e⟩ := List.mem_map.1 h
      obtain ⟨h1, h2⟩ := kids_mem.1 hc
      have h3 := idsAt_get (ids := ids) h1
      rw [e] at h3
      obtain ⟨m, hm⟩ := List.getElem?_of_mem ((hq.2 y).2 ((T.dfs.mem y).1 (List.mem_of_getElem? h3)))
      obtain ⟨z, h4, h5⟩ := hr.2 m y hm
      have h6 : z = x := by rw [← (hdj h1).2 h2]; exact (T.idomZ_unique (T.idomZ h3) h5).symm
      subst h6
      exact List.mem_map.2 ⟨m, List.mem_filter.2 ⟨List.mem_range.2 (get_lt hm), by simpa using h4⟩, getD_of hm⟩
theorem part_sizeI {q r : List IDE} {s : List Int} (hs : SizesL L roots q s) (x : IDE) : partS r s x q.length = ((((List.range q.length).filter fun m => decide (r[m]? = some x)).map fun m => q.getD m ⟨0, 0⟩).map (sizeI L roots)).sum := by
  rw [partS_filter, List.map_map]
  congr 1
  refine List.map_congr_left fun m hm => ?_
  have h1 := idsAt_get (ids := q) (List.mem_range.1 (List.mem_filter.1 hm).1)
  obtain ⟨v, h2, h3⟩ := hs.2 m _ h1
  rw [getD_of h2]
  exact sizeP_iff.1 h3
theorem TreeOk.kids_sum (T : TreeOk L roots ids d) (j : Nat) : ((idsAt ids (kids ids.length d j)).map (Go.Proofs.Ytffnogjgnpbjlaa.sizeI L roots)).sum = ((kids ids.length d j).map (szD ids.length d (wAt L ids))).sum := by
  unfold idsAt
  rw [List.map_map]
  congr 1
  refine List.map_congr_left fun c hc => ?_
  exact (T.sizeI (idsAt_get (kids_mem.1 hc).1)).symm
theorem TreeOk.sums (T : TreeOk L roots ids d) {q r : List IDE} {s : List Int} (hq : ReachL L roots q) (hr : DomsL L roots q r) (hs : SizesL L roots q s) (h0 : firstN L ⟨0, 0⟩ = none) {i : Nat} {x : IDE} (hi : q[i]? = some x) : s[i]? = some (wordsI L x + partS r s x q.length) := by
  obtain ⟨v, h1, h2⟩ := hs.2 i x hi
  obtain ⟨k, hk⟩ := T.num ((hq.2 x).1 (List.mem_of_getElem? hi))
  have h3 := T.dend.size (w := wAt L ids) (get_lt hk)
  rw [T.sizeI hk] at h3
  rw [h1, sizeP_iff.1 h2, h3, part_sizeI hs, sum_perm ((T.kids_perm hq hr h0 (.inr hk)).map _), T.kids_sum]
  unfold wAt
  rw [getD_of hk]
theorem TreeOk.sums_all (T : TreeOk L roots ids d) {q r : List IDE} {s : List Int} (hq : ReachL L roots q) (hr : DomsL L roots q r) (hs : SizesL L roots q s) (h0 : firstN L ⟨0, 0⟩ = none) : partS r s ⟨0, 0⟩ q.length = sumW L q := by
  rw [part_sizeI hs, sum_perm ((T.kids_perm hq hr h0 (.inl ⟨rfl, rfl⟩)).map _), T.kids_sum, ← T.dend.total]
  have hp : ids.Perm q := perm_of_mem T.dfs.nodup hq.1.nodup fun y => (T.dfs.mem y).trans (hq.2 y).symm
  rw [← sumW_perm hp]
  unfold sumW wAt
  congr 1
  apply List.ext_getElem?
  intro m
  rw [List.getElem?_map, List.getElem?_map]
  by_cases hm : m < ids.length
  · rw [List.getElem?_range hm, idsAt_get hm]; rfl
  · rw [List.getElem?_eq_none (by simpa using Nat.le_of_not_lt hm), List.getElem?_eq_none (Nat.le_of_not_lt hm)]; rfl
/-! ### The way up -/
/-- Where the law of the forest stands: what it has passed, and where it is. -/
structure Climb (L : List NodeC) (roots : List IDE) (y : IDE) (passed : List IDE) (cur : IDE) : Prop where
  nodup : passed.Nodup
  sound : ∀ x ∈ passed, RetP L roots x y
  next : (cur = ⟨0, 0⟩ ∧ ∀ x, RetP L roots x y → x ∈ passed) ∨ (cur ∉ passed ∧ RetP L roots cur y ∧ (∀ x, RetP L roots x y → x ∈ passed ∨ RetP L roots x cur) ∧ ∀ x ∈ passed, RetP L roots cur x)
theorem Climb.start (hy : Reach L roots y) : Climb L roots y [] y := ⟨.nil, (fun x h => by cases h), .inr ⟨by simp, .refl hy, fun x h => .inr h, (fun x h => by cases h)⟩⟩
theorem TreeOk.climb (T : TreeOk L roots ids d) (h0 : firstN L ⟨0, 0⟩ = none) {passed : List IDE} {cur z : IDE} (h : Climb L roots y passed cur) (hc : cur ≠ ⟨0, 0⟩) (hz : IdomZ L roots cur z) : Reach L roots cur ∧ Climb L roots y (passed ++ [cur]) z := by
  rcases h.next with ⟨e, _⟩ | ⟨h1, h2, h3, h9⟩
  · exact absurd e hc
  refine ⟨h2.reach, List.nodup_append.2 ⟨h.nodup, List.pairwise_singleton _ _, fun a ha b hb e => h1 (by rw [List.mem_singleton] at hb; rw [← hb, ← e]; exact ha)⟩, fun x hx => ?_, ?_⟩
  · rcases List.mem_append.1 hx with hx | hx
    · exact h.sound x hx
    · rw [List.mem_singleton.1 hx]; exact h2
  · rcases hz with ⟨e, hz⟩ | ⟨hz1, hz2, hz3⟩
    · refine .inl ⟨e, fun x hx => ?_⟩
      rcases h3 x hx with h4 | h4
      · exact List.mem_append_left _ h4
      · rw [hz x h4]; exact List.mem_append_right _ (by simp)
    · refine .inr ⟨fun hm => ?_, T.trans hz1 h2, fun x hx => ?_, fun x hx => ?_⟩
      · rcases List.mem_append.1 hm with hm | hm
        · exact hz2 (T.anti hz1 (h9 z hm))
        · exact hz2 (List.mem_singleton.1 hm)
      · rcases h3 x hx with h4 | h4
        · exact .inl (List.mem_append_left _ h4)
        · by_cases e : x = cur
          · exact .inl (List.mem_append_right _ (by simp [e]))
          · exact .inr (hz3 x h4 e)
      · rcases List.mem_append.1 hx with hx | hx
        · exact T.trans hz1 (h9 x hx)
        · rw [List.mem_singleton.1 hx]; exact hz1
end Go.Proofs.Ytffnogjgnpbjlaa

namespace Go.Proofs.Ytffnogjgnpbjlaa
def bigger (s : IDE → Int) (a b : IDE) : Prop := s b < s a ∨ (s a = s b ∧ ltI a b)
theorem bigger_irrefl {s : IDE → Int} (a : IDE) : ¬ bigger s a a := by
  rintro (h | ⟨_, h⟩)
  · omega
  · exact ltI_irrefl a h
theorem bigger_trans {s : IDE → Int} {a b c : IDE} (h : bigger s a b) (k : bigger s b c) : bigger s a c := by
  unfold bigger at *
  rcases h with h | ⟨h, h'⟩ <;> rcases k with k | ⟨k, k'⟩
  · left; omega
  · left; omega
  · left; omega
  · exact .inr ⟨by omega, ltI_trans h' k'⟩
theorem bigger_total {s : IDE → Int} (a b : IDE) : bigger s a b ∨ a = b ∨ bigger s b a := by
  unfold bigger
  rcases Int.lt_trichotomy (s a) (s b) with h | h | h
  · exact .inr (.inr (.inl h))
  · rcases ltI_total a b with k | k | k
    · exact .inl (.inr ⟨h, k⟩)
    · exact .inr (.inl k)
    · exact .inr (.inr (.inr ⟨h.symm, k⟩))
  · exact .inl (.inl h)
theorem bigger_unique {s : IDE → Int} : ∀ {a b : List IDE}, a.Pairwise (bigger s) → b.Pairwise (bigger s) → (∀ x, x ∈ a ↔ x ∈ b) → a = b
  | [], [], _, _, _ => rfl
  | [], y :: b, _, _, h => absurd ((h y).2 List.mem_cons_self) (by simp)
  | x :: a, [], _, _, h => absurd ((h x).1 List.mem_cons_self) (by simp)
  | x :: a, y :: b, ha, hb, h => by
    obtain ⟨ha1, ha2⟩ := List.pairwise_cons.1 ha
    obtain ⟨hb1, hb2⟩ := List.pairwise_cons.1 hb
    have hxy : x = y := by
      rcases List.mem_cons.1 ((h x).1 List.mem_cons_self) with e | e
      · exact e
      · rcases List.mem_cons.1 ((h y).2 List.mem_cons_self) with e' | e'
        · exact e'.symm
        · exact absurd (bigger_trans (ha1 y e') (hb1 x e)) (bigger_irrefl x)
    subst hxy
    congr 1
    refine bigger_unique ha2 hb2 fun z => ?_
    have hz := h z
    rw [List.mem_cons, List.mem_cons] at hz
    constructor
    · intro hza
      rcases hz.1 (.inr hza) with e | e
      · exact absurd (ha1 z hza) (by rw [e]; exact bigger_irrefl x)
      · exact e
    · intro hzb
      rcases hz.2 (.inr hzb) with e | e
      · exact absurd (hb1 z hzb) (by rw [e]; exact bigger_irrefl x)
      · exact e
/-- What was chosen, the larger ones, is the beginning of the sorted list. -/
theorem chosen_take {s : IDE → Int} {T out all : List IDE} (hT : T.Pairwise (bigger s)) (hT' : ∀ x, x ∈ T ↔ x ∈ all) (ho : out.Pairwise (bigger s)) (hom : ∀ x ∈ out, x ∈ all) (hrest : ∀ x ∈ all, x ∉ out → ∀ y ∈ out, bigger s y x) : out = T.take out.length := by
  have h : out ++ T.filter (fun x => decide (x ∉ out)) = T := by
    refine bigger_unique (List.pairwise_append.2 ⟨ho, List.Pairwise.filter _ hT, fun a ha b hb => ?_⟩) hT fun x => ?_
    · obtain ⟨h1, h2⟩ := List.mem_filter.1 hb
      exact hrest b ((hT' b).1 h1) (by simpa using h2) a ha
    · rw [List.mem_append, List.mem_filter]
      constructor
      · rintro (h1 | h1)
        · exact (hT' x).2 (hom x h1)
        · exact h1.1
      · intro h1
        by_cases h2 : x ∈ out
        · exact .inl h2
        · exact .inr ⟨h1, by simpa using h2⟩
  have := congrArg (List.take out.length) h
  rw [List.take_left'] at this
  · exact this
  · rfl
def ltS (s : IDE → Int) (a b : IDE) : Bool := decide (s b < s a)
theorem ltS_swo (s : IDE → Int) : Go.Sort.SWO (ltS s) := ⟨fun x => by simp [ltS], fun x y z => by simp only [ltS, decide_eq_true_eq]; omega, fun x y z => by simp only [ltS, decide_eq_false_iff_not]; omega⟩
theorem stable_bigger {s : IDE → Int} : ∀ {l' : List IDE}, Srt (ltS s) l' → (∀ z, (l'.filter (eqv (ltS s) z)).Pairwise ltI) → l'.Pairwise (bigger s)
  | [], _, _ => .nil
  | a :: l', h, hs => by
    obtain ⟨h1, h2⟩ := List.pairwise_cons.1 h
    refine List.pairwise_cons.2 ⟨fun b hb => ?_, stable_bigger h2 fun z => ?_⟩
    · have h3 := h1 b hb
      simp only [ltS, decide_eq_false_iff_not] at h3
      by_cases e : s a = s b
      · right
        refine ⟨e, ?_⟩
        have h4 := hs a
        have ea : ∀ c, s a = s c → eqv (ltS s) a c = true := fun c hc => by simp [eqv, ltS]; omega
        rw [List.filter_cons_of_pos (ea a rfl)] at h4
        exact (List.pairwise_cons.1 h4).1 b (List.mem_filter.2 ⟨hb, ea b e⟩)
      · left; omega
    · have h4 := hs z
      by_cases e : eqv (ltS s) z a = true
      · rw [List.filter_cons_of_pos e] at h4; exact (List.pairwise_cons.1 h4).2
      · rw [List.filter_cons_of_neg e] at h4; exact h4
theorem sorted_bigger {s : IDE → Int} {l l' : List IDE} (hl : SortedI l) (h : Srt (ltS s) l') (hs : Stb (ltS s) l l') : l'.Pairwise (bigger s) :=
  stable_bigger h fun z => by rw [hs z]; exact List.Pairwise.filter _ hl
end Go.Proofs.Ytffnogjgnpbjlaa

namespace Go.Proofs.Ytffnogjgnpbjlaa
def chkC (L : List NodeC) (roots q : List IDE) : Bool :=
  roots.all (fun r => (firstN L r).isNone || decide (r ∈ q)) && q.all fun x => match firstN L x with | none => false | some n => (refsOf n).all fun y => (firstN L y).isNone || decide (y ∈ q)
/-- Each is a root, or an earlier one refers to it. -/
def chkS (L : List NodeC) (roots : List IDE) : List IDE → List IDE → Bool
  | _, [] => true
  | done, x :: q => (decide (x ∈ roots) || done.any fun a => match firstN L a with | none => false | some n => decide (x ∈ refsOf n)) && chkS L roots (x :: done) q
theorem chkS_sound {L : List NodeC} {roots : List IDE} : ∀ {q done : List IDE}, chkS L roots done q = true → (∀ x ∈ q, (firstN L x).isSome) → (∀ x ∈ done, Reach L roots x) → ∀ x ∈ q, Reach L roots x
  | [], _, _, _, _, x, hx => by cases hx
  | y :: q, done, h, hs, hd, x, hx => by
    unfold chkS at h
    rw [Bool.and_eq_true, Bool.or_eq_true, decide_eq_true_eq, List.any_eq_true] at h
    have hy : Reach L roots y := by
      rcases h.1 with h1 | ⟨a, ha, h1⟩
      · exact .root h1 (hs y List.mem_cons_self)
      · cases hn : firstN L a with
        | none => rw [hn] at h1; cases h1
        | some n => rw [hn] at h1; exact .step (hd a ha) hn (by simpa using h1) (hs y List.mem_cons_self)
    rcases List.mem_cons.1 hx with rfl | hx
    · exact hy
    · exact chkS_sound h.2 (fun z hz => hs z (List.mem_cons_of_mem _ hz)) (fun z hz => by
        rcases List.mem_cons.1 hz with rfl | hz
        · exact hy
        · exact hd z hz) x hx
theorem chk_reach {L : List NodeC} {roots q : List IDE} (hc : chkC L roots q = true) (hs : chkS L roots [] q = true) (x : IDE) : x ∈ q ↔ Reach L roots x := by
  unfold chkC at hc
  rw [Bool.and_eq_true, List.all_eq_true, List.all_eq_true] at hc
  obtain ⟨h1, h2⟩ := hc
  have hn : ∀ x ∈ q, ∃ n, firstN L x = some n ∧ ∀ y ∈ refsOf n, (firstN L y).isSome → y ∈ q := fun x hx => by
    have h3 := h2 x hx
    cases hf : firstN L x with
    | none => rw [hf] at h3; cases h3
    | some n =>
      rw [hf] at h3
      refine ⟨n, rfl, fun y hy hs => ?_⟩
      have h4 := List.all_eq_true.1 h3 y hy
      rw [Bool.or_eq_true, decide_eq_true_eq] at h4
      rcases h4 with h4 | h4
      · cases hz : firstN L y with
        | none => rw [hz] at hs; cases hs
        | some m => rw [hz] at h4; cases h4
      · exact h4
  constructor
  · exact fun hx => chkS_sound hs (fun z hz => by obtain ⟨n, e, _⟩ := hn z hz; rw [e]; rfl) (fun z hz => by cases hz) x hx
  · intro hr
    induction hr with
    | @root r hr hs =>
      have h4 := h1 r hr
      rw [Bool.or_eq_true, decide_eq_true_eq] at h4
      rcases h4 with h4 | h4
      · cases hz : firstN L r with
        | none => rw [hz] at hs; cases hs
        | some m => rw [hz] at h4; cases h4
      · exact h4
    | @step a y n ha hna hy hs ih =>
      obtain ⟨m, e, h5⟩ := hn a ih
      rw [hna] at e
      injection e with e
      subst e
      exact h5 y hy hs
def chkI : List IDE → Bool
  | [] => true
  | x :: q => q.all (fun y => decide (ltI x y)) && chkI q
theorem chkI_sorted : ∀ {q : List IDE}, chkI q = true → SortedI q
  | [], _ => .nil
  | x :: q, h => by
    unfold chkI at h
    rw [Bool.and_eq_true, List.all_eq_true] at h
    exact List.pairwise_cons.2 ⟨fun y hy => by simpa using h.1 y hy, chkI_sorted h.2⟩
theorem chk_reachL {L : List NodeC} {roots q : List IDE} (hi : chkI q = true) (hc : chkC L roots q = true) (hs : chkS L roots [] q = true) : ReachL L roots q := ⟨chkI_sorted hi, chk_reach hc hs⟩
theorem chk_retL {L : List NodeC} {roots all less q : List IDE} {x : IDE} (ha : ReachL L roots all) (hw : ReachL (woN L x) roots less) (hi : chkI q = true) (hq : all.filter (fun y => decide (y ∉ less)) = q) : RetL L roots x q :=
  ⟨chkI_sorted hi, fun y => by rw [← hq, List.mem_filter, ha.2]; simp [RetP, hw.2]⟩
/-! ### The example -/
def rfV (k : Int) : ValE := ⟨2, 0, 1, k⟩
def eL : List NodeC := [⟨1, 1, 0, 1, [rfV 2, rfV 3]⟩, ⟨1, 2, 0, 1, [rfV 4]⟩, ⟨1, 3, 0, 1, [rfV 4]⟩, ⟨1, 4, 0, 1, [rfV 5]⟩, ⟨1, 5, 0, 1, []⟩]
def iD (k : Int) : IDE := ⟨1, k⟩
theorem e_all : ReachL eL [iD 1] [iD 1, iD 2, iD 3, iD 4, iD 5] := chk_reachL (by decide) (by decide) (by decide)
theorem e_1 : RetL eL [iD 1] (iD 1) [iD 1, iD 2, iD 3, iD 4, iD 5] := chk_retL e_all (chk_reachL (q := []) (by decide) (by decide) (by decide)) (by decide) (by decide)
theorem e_2 : RetL eL [iD 1] (iD 2) [iD 2] := chk_retL e_all (chk_reachL (q := [iD 1, iD 3, iD 4, iD 5]) (by decide) (by decide) (by decide)) (by decide) (by decide)
theorem e_3 : RetL eL [iD 1] (iD 3) [iD 3] := chk_retL e_all (chk_reachL (q := [iD 1, iD 2, iD 4, iD 5]) (by decide) (by decide) (by decide)) (by decide) (by decide)
theorem e_4 : RetL eL [iD 1] (iD 4) [iD 4, iD 5] := chk_retL e_all (chk_reachL (q := [iD 1, iD 2, iD 3]) (by decide) (by decide) (by decide)) (by decide) (by decide)
theorem e_5 : RetL eL [iD 1] (iD 5) [iD 5] := chk_retL e_all (chk_reachL (q := [iD 1, iD 2, iD 3, iD 4]) (by decide) (by decide) (by decide)) (by decide) (by decide)
theorem e_ret {x y : IDE} (h : RetP eL [iD 1] x y) : (x = iD 1) ∨ (x = iD 2 ∧ y = iD 2) ∨ (x = iD 3 ∧ y = iD 3) ∨ (x = iD 4 ∧ (y = iD 4 ∨ y = iD 5)) ∨ (x = iD 5 ∧ y = iD 5) := by
  have hx := (e_all.2 x).2 h.reach
  simp only [List.mem_cons, List.not_mem_nil, or_false] at hx
  rcases hx with e | e | e | e | e
  · exact .inl e
  · subst e; have := (e_2.2 y).2 h; simp at this; exact .inr (.inl ⟨rfl, this⟩)
  · subst e; have := (e_3.2 y).2 h; simp at this; exact .inr (.inr (.inl ⟨rfl, this⟩))
  · subst e; have := (e_4.2 y).2 h; simp at this; exact .inr (.inr (.inr (.inl ⟨rfl, this⟩)))
  · subst e; have := (e_5.2 y).2 h; simp at this; exact .inr (.inr (.inr (.inr ⟨rfl, this⟩)))
theorem e_up1 : IdomZ eL [iD 1] (iD 1) ⟨0, 0⟩ := .inl ⟨rfl, fun x h => by
  rcases e_ret h with e | ⟨_, e⟩ | ⟨_, e⟩ | ⟨_, e | e⟩ | ⟨_, e⟩
  · exact e
  all_goals exact absurd e (by decide)⟩
theorem e_one {y : IDE} (hy : y ∈ [iD 2, iD 3, iD 4]) : IdomZ eL [iD 1] y (iD 1) := by
  have h1 : RetP eL [iD 1] (iD 1) y := (e_1.2 y).1 (by simp at hy ⊢; rcases hy with e | e | e <;> simp [e])
  refine .inr ⟨h1, fun e => ?_, fun x h hne => ?_⟩
  · rw [← e] at hy; exact absurd hy (by decide)
  · rcases e_ret h with e | ⟨e, e'⟩ | ⟨e, e'⟩ | ⟨e, e' | e'⟩ | ⟨e, e'⟩
    · rw [e]; exact (e_1.2 _).1 (by simp)
    · exact absurd (e.trans e'.symm) hne
    · exact absurd (e.trans e'.symm) hne
    · exact absurd (e.trans e'.symm) hne
    · rw [e'] at hy; exact absurd hy (by decide)
    · rw [e'] at hy; exact absurd hy (by decide)
theorem e_up5 : IdomZ eL [iD 1] (iD 5) (iD 4) := by
  refine .inr ⟨(e_4.2 _).1 (by simp), by decide, fun x h hne => ?_⟩
  rcases e_ret h with e | ⟨_, e'⟩ | ⟨_, e'⟩ | ⟨e, _⟩ | ⟨e, _⟩
  · rw [e]; exact (e_1.2 _).1 (by simp)
  · exact absurd e' (by decide)
  · exact absurd e' (by decide)
  · rw [e]; exact (e_4.2 _).1 (by simp)
  · exact absurd e hne
theorem e_doms : DomsL eL [iD 1] [iD 1, iD 2, iD 3, iD 4, iD 5] [⟨0, 0⟩, iD 1, iD 1, iD 1, iD 4] := ⟨rfl, fun k y hk => by
  match k, hk with
  | 0, hk => simp at hk; subst hk; exact ⟨_, rfl, e_up1⟩
  | 1, hk => simp at hk; subst hk; exact ⟨_, rfl, e_one (by simp)⟩
  | 2, hk => simp at hk; subst hk; exact ⟨_, rfl, e_one (by simp)⟩
  | 3, hk => simp at hk; subst hk; exact ⟨_, rfl, e_one (by simp)⟩
  | 4, hk => simp at hk; subst hk; exact ⟨_, rfl, e_up5⟩
  | n + 5, hk => simp at hk⟩
theorem e_size {x : IDE} {q : List IDE} {s : Int} (h : RetL eL [iD 1] x q) (hs : sumW eL q = s) : SizeP eL [iD 1] x s := fun q' hq => by rw [← h.unique hq, hs]
theorem e_sizes : SizesL eL [iD 1] [iD 1, iD 2, iD 3, iD 4, iD 5] [20, 4, 4, 8, 4] := ⟨rfl, fun k y hk => by
  match k, hk with
  | 0, hk => simp at hk; subst hk; exact ⟨_, rfl, e_size e_1 (by decide)⟩
  | 1, hk => simp at hk; subst hk; exact ⟨_, rfl, e_size e_2 (by decide)⟩
  | 2, hk => simp at hk; subst hk; exact ⟨_, rfl, e_size e_3 (by decide)⟩
  | 3, hk => simp at hk; subst hk; exact ⟨_, rfl, e_size e_4 (by decide)⟩
  | 4, hk => simp at hk; subst hk; exact ⟨_, rfl, e_size e_5 (by decide)⟩
  | n + 5, hk => simp at hk⟩
end Go.Proofs.Ytffnogjgnpbjlaa

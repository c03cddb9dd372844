/-
  Contracts of the functions of this seat that each theorem names: what a call returns, and that it writes nothing that was there before. The conditions stand in each theorem.
-/
import Derived.Test.YthigjlllhnajbaaC25Pair
import Derived.Test.YthigjlllhnajbaaC25Covers2
import Derived.Test.YthigjlllhnajbaaC25Build
import Derived.Test.YthigjlllhnajbaaC25Awake
import Derived.Test.YthigjlllhnajbaaGrpA
namespace Go.Proofs.Ythigjlllhnajbaa
open Go.RowKit
theorem run_neq_id (a b c d : Int) (w : World) : (binOp .neq 31 (.agg #[.int .i64 a, .int .i64 b]) (.agg #[.int .i64 c, .int .i64 d])).run Try.prog w = .ok (.bool (!ideq a b c d)) w := run_neq_IDE ⟨a, b⟩ ⟨c, d⟩ w
/-- append, as one step of a region that draws its order; where the result lies. -/
theorem step_app2 {α : Type} {f : α → List Value} {s : Nat} {e : TypeId} {base : Nat} {w : World} {P : Program} {t : TypeId} {bytes : Nat} {ops : Array Oper} {o : Oper} {a : Act} {K : Act → World → Prop} {Q : Exit → Act → World → Prop} {E : Prop} {m n : Nat} (hgd : o.guard = none) (sl x : Operand)
    (ho : o.op = .call { callee := .builtin .append, args := #[sl, x], argTypes := #[t, t] }) (he : Enc f s) (ht : ElemT P t e s bytes) (A : Option Addr) (c : Nat) (l2 : List α) (l : List α) (v : Value)
    (hs : a.eval sl = v) (hx : a.eval x = .slice A m c) (hm : l2.length = m) (hn : l.length + m = n) (hown : Own f s e base w v l) (hsrc : SlAt f s w A l2)
    (hbytes : n * bytes ≤ 140737488355328) (h63 : n ≤ maxLen) (hbase : base ≤ w.heap.size)
    (h : ∀ A' c' w', Own f s e base w' (.slice A' n c') (l ++ l2) → c' ≤ maxLen → Step w w' v (.slice A' n c') → K (a.put o.dst (.slice A' n c')) w') :
    if Region.wanted o (yielded ops a.tmps) = true then Oper.wp P o a w K Q else E := by
  have hw : Region.wanted o (yielded ops a.tmps) = true := by simp [Region.wanted, hgd]
  rw [if_pos hw]
  subst hm hn
  obtain ⟨v', w', hrun, h2, h3, h4⟩ := run_app (P := P) (ty := o.type) he ht hown A c l2 hsrc hbytes h63 hbase
  unfold Oper.wp execOp
  simp only [ho, resolve, invoke, builtin, Sem.run_bind, Sem.run_pure, Result.andThen_ok, List.map_toArray, List.map_cons, List.map_nil, hs, hx, hrun]
  obtain ⟨A', c', rfl, _, hm, _⟩ := h2.slAt he
  rw [List.length_append] at h2 h4 ⊢
  exact h A' c' w' h2 hm ⟨h3, h4.imp id fun e => ⟨_, Nat.le_refl _, e⟩⟩
/-- A list of the client with its entries' place. -/
structure LA where
  lp : LP
  A : Option Addr
  c : Nat
def LA.lv (x : LA) : ListV := ⟨x.lp.round, x.lp.sent, x.lp.received, x.A, x.c, x.lp.entries⟩
def LA.cells (x : LA) : List Value := [.int .i64 x.lp.round, .int .i64 x.lp.sent, .int .i64 x.lp.received, .slice x.A x.lp.entries.length x.c]
theorem LA.enc : Enc LA.cells 4 := ⟨fun _ => rfl, fun x u hu => by simp only [LA.cells, List.mem_cons, List.not_mem_nil, or_false] at hu; rcases hu with rfl | rfl | rfl | rfl <;> rfl, by decide⟩
theorem own_type {α : Type} {f : α → List Value} {s : Nat} {e : TypeId} {base : Nat} {w : World} {v : Value} {l : List α} (h : Own f s e base w v l) {g : Nat} (hv : v.ownBlock = some g) : ∃ cs, w.heap[g]? = some (.cells cs e (0, 0)) := by
  rcases h.2 with ⟨h0, _⟩ | ⟨g', cap, cur, h0, _, hg, _⟩
  · rw [h0] at hv; cases hv
  · rw [h0] at hv; injection hv with hv; subst hv; exact ⟨cur, hg⟩
theorem own_apart {α β : Type} {f : α → List Value} {f' : β → List Value} {s s' : Nat} {e e' : TypeId} {base base' : Nat} {w : World} {v v' : Value} {l : List α} {l' : List β} (h : Own f s e base w v l) (h' : Own f' s' e' base' w v' l') (hne : e ≠ e') : Apart v v' := fun g h1 h2 => by
  obtain ⟨cs, hc⟩ := own_type h h1
  obtain ⟨cs', hc'⟩ := own_type h' h2
  rw [hc] at hc'
  injection hc' with hc'
  injection hc' with _ hc' _
  exact hne hc'
theorem own_off {α : Type} {f : α → List Value} {s : Nat} {e ty : TypeId} {base : Nat} {w : World} {v : Value} {l : List α} {g : Nat} {cs : Array Value} {fr : Nat × Nat} (h : Own f s e base w v l) (hg : w.heap[g]? = some (.cells cs ty fr)) (hne : e ≠ ty) : v.ownBlock ≠ some g := fun hv => by
  obtain ⟨cs', hc⟩ := own_type h hv
  rw [hg] at hc
  injection hc with hc
  injection hc with _ hc _
  exact hne hc.symm
theorem Step.own {α : Type} {f : α → List Value} {s : Nat} {e : TypeId} {base : Nat} {w w' : World} {v v' u : Value} {l : List α} (h : Step w w' v v') (hu : Own f s e base w u l) (ha : Apart v u) : Own f s e base w' u l ∧ Apart v' u :=
  have k := ha.grown hu h.1 h.2
  ⟨k.2, k.1⟩
abbrev tSt : TypeId := 34
abbrev tSc : TypeId := 43
abbrev tLi : TypeId := 26
abbrev tLd : TypeId := 64
abbrev tPa : TypeId := 50
/-- The five slices of a pair, and the entries of its lists. -/
structure Slices (base : Nat) (w : World) (sv nv cv ov lv : Value) (st : PairS) (ls : List LA) : Prop where
  s : Own StubE.cells 12 tSt base w sv st.stubs
  n : Own ScionE.cells 12 tSc base w nv st.scions
  c : Own ScionE.cells 12 tSc base w cv st.toClient
  o : Own ScionE.cells 12 tSc base w ov st.toOwner
  l : Own LA.cells 4 tLi base w lv ls
  e : ∀ L ∈ ls, Own ListedE.cells 3 tLd base w (.slice L.A L.lp.entries.length L.c) L.lp.entries
  nc : Apart nv cv
  no : Apart nv ov
  co : Apart cv ov
  lp : ls.map (·.lp) = st.lists
/-- A pair at p. -/
structure PairAt (base p : Nat) (w : World) (sv nv cv ov lv : Value) (st : PairS) (ls : List LA) : Prop where
  b : base ≤ p
  h : w.heap[p]? = some (.cells #[sv, nv, cv, ov, .int .i64 st.sent, .int .i64 st.got, .int .i64 st.out, .int .i64 st.inn, .int .i64 st.round, .int .i64 st.applied, .int .u64 st.next, lv] tPa (0, 0))
  k : Slices base w sv nv cv ov lv st ls
section
variable {base p : Nat} {w w' : World} {sv nv cv ov lv sv' nv' cv' ov' lv' : Value} {st st' : PairS} {ls ls' : List LA}
theorem Slices.below (h : Slices base w sv nv cv ov lv st ls) (hb : Below w.heap.size w w') : Slices base w' sv nv cv ov lv st ls :=
  ⟨h.s.below hb, h.n.below hb, h.c.below hb, h.o.below hb, h.l.below hb, fun L hL => (h.e L hL).below hb, h.nc, h.no, h.co, h.lp⟩
theorem PairAt.below (h : PairAt base p w sv nv cv ov lv st ls) (hb : Below w.heap.size w w') : PairAt base p w' sv nv cv ov lv st ls := ⟨h.b, blk_below h.h hb, h.k.below hb⟩
theorem PairAt.later (h : PairAt base p w sv nv cv ov lv st ls) : ∀ u [Later w u], PairAt base p u sv nv cv ov lv st ls := fun _ i => h.below i.below
/-- A store into the pair's block. -/
theorem Slices.setp (h : Slices base w sv nv cv ov lv st ls) {cs : Array Value} {fr : Nat × Nat} (hp : w.heap[p]? = some (.cells cs tPa fr)) (i : Nat) (v : Value) : Slices base (w.setCell ⟨p, i, none⟩ v) sv nv cv ov lv st ls :=
  ⟨h.s.far (own_off h.s hp (by decide)) v, h.n.far (own_off h.n hp (by decide)) v, h.c.far (own_off h.c hp (by decide)) v, h.o.far (own_off h.o hp (by decide)) v, h.l.far (own_off h.l hp (by decide)) v, fun L hL => (h.e L hL).far (own_off (h.e L hL) hp (by decide)) v, h.nc, h.no, h.co, h.lp⟩
/-- One of the slices has grown, or is another one. -/
theorem Slices.stepS (h : Slices base w sv nv cv ov lv st ls) (hs : Step w w' sv sv') {l' : List StubE} (hl : Own StubE.cells 12 tSt base w' sv' l') : Slices base w' sv' nv cv ov lv { st with stubs := l' } ls :=
  ⟨hl, (hs.own h.n (own_apart h.s h.n (by decide))).1, (hs.own h.c (own_apart h.s h.c (by decide))).1, (hs.own h.o (own_apart h.s h.o (by decide))).1, (hs.own h.l (own_apart h.s h.l (by decide))).1, fun L hL => (hs.own (h.e L hL) (own_apart h.s (h.e L hL) (by decide))).1, h.nc, h.no, h.co, h.lp⟩
theorem Slices.stepN (h : Slices base w sv nv cv ov lv st ls) (hs : Step w w' nv nv') {l' : List ScionE} (hl : Own ScionE.cells 12 tSc base w' nv' l') : Slices base w' sv nv' cv ov lv { st with scions := l' } ls :=
  ⟨(hs.own h.s (own_apart h.n h.s (by decide))).1, hl, (hs.own h.c h.nc).1, (hs.own h.o h.no).1, (hs.own h.l (own_apart h.n h.l (by decide))).1, fun L hL => (hs.own (h.e L hL) (own_apart h.n (h.e L hL) (by decide))).1, (hs.own h.c h.nc).2, (hs.own h.o h.no).2, h.co, h.lp⟩
theorem Slices.stepC (h : Slices base w sv nv cv ov lv st ls) (hs : Step w w' cv cv') {l' : List ScionE} (hl : Own ScionE.cells 12 tSc base w' cv' l') : Slices base w' sv nv cv' ov lv { st with toClient := l' } ls :=
  ⟨(hs.own h.s (own_apart h.c h.s (by decide))).1, (hs.own h.n h.nc.symm).1, hl, (hs.own h.o h.co).1, (hs.own h.l (own_apart h.c h.l (by decide))).1, fun L hL => (hs.own (h.e L hL) (own_apart h.c (h.e L hL) (by decide))).1, (hs.own h.n h.nc.symm).2.symm, h.no, (hs.own h.o h.co).2, h.lp⟩
theorem Slices.stepO (h : Slices base w sv nv cv ov lv st ls) (hs : Step w w' ov ov') {l' : List ScionE} (hl : Own ScionE.cells 12 tSc base w' ov' l') : Slices base w' sv nv cv ov' lv { st with toOwner := l' } ls :=
  ⟨(hs.own h.s (own_apart h.o h.s (by decide))).1, (hs.own h.n h.no.symm).1, (hs.own h.c h.co.symm).1, hl, (hs.own h.l (own_apart h.o h.l (by decide))).1, fun L hL => (hs.own (h.e L hL) (own_apart h.o (h.e L hL) (by decide))).1, h.nc, (hs.own h.n h.no.symm).2.symm, (hs.own h.c h.co.symm).2.symm, h.lp⟩
/-- A new slice in the place of an old one. -/
theorem Slices.newS (h : Slices base w sv nv cv ov lv st ls) {l' : List StubE} (hl : Own StubE.cells 12 tSt base w sv' l') : Slices base w sv' nv cv ov lv { st with stubs := l' } ls := ⟨hl, h.n, h.c, h.o, h.l, h.e, h.nc, h.no, h.co, h.lp⟩
theorem Slices.newN (h : Slices base w sv nv cv ov lv st ls) {l' : List ScionE} (hl : Own ScionE.cells 12 tSc base w nv' l') (h1 : Apart nv' cv) (h2 : Apart nv' ov) : Slices base w sv nv' cv ov lv { st with scions := l' } ls := ⟨h.s, hl, h.c, h.o, h.l, h.e, h1, h2, h.co, h.lp⟩
theorem apart_fresh {α β : Type} {f : α → List Value} {f' : β → List Value} {s s' B : Nat} {e e' : TypeId} {v v' : Value} {l : List α} {l' : List β} (h : Own f s e base w v l) (h' : Own f' s' e' B w' v' l') (hB : w.heap.size ≤ B) : Apart v' v := fun g h1 h2 => by
  have := (World.ownsRow.lt h g h2).2
  have := (World.ownsRow.lt h' g h1).1
  omega
/-- The lists with one more. -/
theorem Slices.stepL (h : Slices base w sv nv cv ov lv st ls) (hs : Step w w' lv lv') {L : LA} (hl : Own LA.cells 4 tLi base w' lv' (ls ++ [L])) (hL : Own ListedE.cells 3 tLd base w (.slice L.A L.lp.entries.length L.c) L.lp.entries) : Slices base w' sv nv cv ov lv' { st with lists := st.lists ++ [L.lp] } (ls ++ [L]) :=
  ⟨(hs.own h.s (own_apart h.l h.s (by decide))).1, (hs.own h.n (own_apart h.l h.n (by decide))).1, (hs.own h.c (own_apart h.l h.c (by decide))).1, (hs.own h.o (own_apart h.l h.o (by decide))).1, hl, fun K hK => by
    rcases List.mem_append.1 hK with hK | hK
    · exact (hs.own (h.e K hK) (own_apart h.l (h.e K hK) (by decide))).1
    · rw [List.mem_singleton] at hK; subst hK
      exact (hs.own hL (own_apart h.l hL (by decide))).1, h.nc, h.no, h.co, by rw [List.map_append, h.lp]; rfl⟩
theorem step_set {v : Value} {g i : Nat} {u : Value} (hv : v.ownBlock = some g) : Step w (w.setCell ⟨g, i, none⟩ u) v v := ⟨by rw [hv]; exact grown_setCell w ⟨g, i, none⟩ u, .inl rfl⟩
theorem Slices.nums (h : Slices base w sv nv cv ov lv st ls) (h1 : st'.stubs = st.stubs) (h2 : st'.scions = st.scions) (h3 : st'.toClient = st.toClient) (h4 : st'.toOwner = st.toOwner) (h5 : st'.lists = st.lists) : Slices base w sv nv cv ov lv st' ls :=
  ⟨h1 ▸ h.s, h2 ▸ h.n, h3 ▸ h.c, h4 ▸ h.o, h.l, h.e, h.nc, h.no, h.co, h5 ▸ h.lp⟩
/-- A block of another type stays behind a step. -/
theorem Step.keep {α : Type} {f : α → List Value} {s : Nat} {e ty : TypeId} {v v' : Value} {l : List α} (h : Step w w' v v') (ho : Own f s e base w v l) {g : Nat} {cs : Array Value} (hg : w.heap[g]? = some (.cells cs ty (0, 0))) (hne : e ≠ ty) : w'.heap[g]? = some (.cells cs ty (0, 0)) := (h.boxed hg (own_off ho hg hne)).1
theorem Step.below {base : Nat} {α : Type} {f : α → List Value} {s : Nat} {e : TypeId} {v v' : Value} {l : List α} {w0 : World} (h : Step w w' v v') (ho : Own f s e base w v l) (hb : Below base w0 w) (hz : base ≤ w.heap.size) : Below base w0 w' := ho.belowGrown hb h.1 (Nat.le_refl _) hz
/-- What an event leaves. -/
def PPost (base p : Nat) (w : World) (st : PairS) (r : Ending) (w' : World) : Prop := r = .returned (.tuple #[]) ∧ (∃ sv nv cv ov lv ls, PairAt base p w' sv nv cv ov lv st ls) ∧ Below base w w'
end
end Go.Proofs.Ythigjlllhnajbaa

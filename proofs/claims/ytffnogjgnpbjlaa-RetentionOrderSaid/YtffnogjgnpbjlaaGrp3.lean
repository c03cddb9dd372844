/-
  Small texts of this seat, put into one. Conditions stand in each theorem.
-/
import Derived.Test.YtffnogjgnpbjlaaOwnLib
import Derived.Test.YtffnogjgnpbjlaaMapLib
import Derived.Test.YtffnogjgnpbjlaaGReach16
import Derived.Test.YtffnogjgnpbjlaaGrp1
import Derived.Test.YtffnogjgnpbjlaaGrpA
import Derived.Test.YtffnogjgnpbjlaaGSet
set_option linter.unusedSimpArgs false
set_option linter.unusedVariables false
namespace Go.Proofs.Ytffnogjgnpbjlaa
open Go.RowKit
section
variable {w w' : World} {g gm : Nat} {o : Obj}
theorem grown_block (hg : w.grownBy w' (some g)) {k : Nat} (hk : k < w.heap.size) (hne : k ≠ g) : w'.heap[k]? = w.heap[k]? := by
  obtain ⟨_, _, _, _, h⟩ := hg
  exact h k hk (fun e => hne (Option.some.inj e))
theorem grown_size {row : Option Nat} (hg : w.grownBy w' row) : w.heap.size ≤ w'.heap.size := by obtain ⟨_, _, _, h, _⟩ := hg; exact h
theorem grown_heap (hg : w.grownBy w' (some g)) {k : Nat} {x : Obj} (hx : w.heap[k]? = some x) (hne : k ≠ g) : w'.heap[k]? = some x := (grown_block hg (blk_lt hx) hne).trans hx
theorem grown_none {k : Nat} {x : Obj} (hg : w.grownBy w' none) (hx : w.heap[k]? = some x) : w'.heap[k]? = some x := by
  obtain ⟨_, _, _, _, h⟩ := hg
  exact (h k (blk_lt hx) (fun e => by cases e)).trans hx
theorem cells_grown {es : Array MapEntry} {ck : Nat} (hm : w.heap[gm]? = some (Obj.map es ck)) (hg : w.grownBy w' (some gm)) (a : Addr) (v : Value) (h : w.cell? a = some v) : w'.cell? a = some v := by
  have hb := World.block_lt_of_cell? w a h
  have hne : a.block ≠ gm := by
    intro e
    unfold World.cell? at h
    rw [e, hm] at h
    simp at h
  have := grown_block hg hb hne
  unfold World.cell? at h ⊢
  rw [this]; exact h
theorem Own.kept_obj {α : Type} {f : α → List Value} {s : Nat} {e : TypeId} {base : Nat} {v : Value} {l : List α} (h : Own f s e base w v l) (hg : w.grownBy w' (some g)) (ho : w.heap[g]? = some o) (hne : ∀ cs, o ≠ .cells cs e (0, 0)) : Own f s e base w' v l := by
  cases hv : v.ownBlock with
  | none => exact h.kept hg (.inl hv)
  | some k =>
    refine h.kept hg (.inr fun e' => ?_)
    obtain ⟨cs, hc⟩ := own_type h hv
    rw [hv] at e'
    injection e' with e'
    rw [← e', hc] at ho
    injection ho with ho
    exact hne cs ho.symm
theorem heap_grownOwn {α : Type} {f : α → List Value} {s : Nat} {e t : TypeId} {base : Nat} {v : Value} {l : List α} (ho : Own f s e base w v l) (hg : w.grownBy w' v.ownBlock) {k : Nat} {cs : Array Value} {fr : Nat × Nat} (hx : w.heap[k]? = some (.cells cs t fr)) (hne : e ≠ t) : w'.heap[k]? = some (.cells cs t fr) := by
  cases hv : v.ownBlock with
  | none => rw [hv] at hg; exact grown_none hg hx
  | some j =>
    rw [hv] at hg
    obtain ⟨cs', hc⟩ := own_type ho hv
    refine grown_heap hg hx (fun e' => ?_)
    rw [e', hc] at hx
    injection hx with hx
    injection hx with _ hx _
    exact hne hx
theorem own_grownOwn {α β : Type} {f : α → List Value} {f' : β → List Value} {s s' : Nat} {e e' : TypeId} {base base' : Nat} {v v' : Value} {l : List α} {l' : List β} (ho : Own f s e base w v l) (hg : w.grownBy w' v.ownBlock) (h : Own f' s' e' base' w v' l') (hne : e ≠ e') : Own f' s' e' base' w' v' l' := by
  cases hv : v.ownBlock with
  | none => rw [hv] at hg; exact h.kept hg (by cases v'.ownBlock <;> simp)
  | some j =>
    rw [hv] at hg
    obtain ⟨cs', hc⟩ := own_type ho hv
    exact h.kept_obj hg hc (fun cs e1 => by injection e1 with _ e1 _; exact hne e1)
theorem mapFn_grownOwn {κ ν : Type} {fk : κ → Value} {fv : ν → Value} {M : κ → Option ν} {k : Nat} (h : MapFn fk fv w k M) {α : Type} {f : α → List Value} {s : Nat} {e : TypeId} {base : Nat} {v : Value} {l : List α} (ho : Own f s e base w v l) (hg : w.grownBy w' v.ownBlock) : MapFn fk fv w' k M := by
  obtain ⟨es, c, h1, h2⟩ := h
  refine ⟨es, c, ?_, h2⟩
  cases hv : v.ownBlock with
  | none => rw [hv] at hg; exact grown_none hg h1
  | some j =>
    rw [hv] at hg
    obtain ⟨cs', hc⟩ := own_type ho hv
    exact grown_heap hg h1 (fun e' => by rw [e', hc] at h1; injection h1 with h1; cases h1)
theorem below_grown {B : Nat} {w0 : World} {row : Option Nat} (hb : Below B w0 w) (hg : w.grownBy w' row) (hB : B ≤ w.heap.size) (hr : ∀ k, row = some k → B ≤ k) : Below B w0 w' := hb.grown hg hB hr
end
end Go.Proofs.Ytffnogjgnpbjlaa

namespace Go.Proofs.Ytffnogjgnpbjlaa
open Go.RowKit
attribute [local simp] heap_drew
/-- The identities that a node's fields refer to. -/
def FolP (n : NodeC) (w : World) (r : Ending) (w' : World) : Prop := ∃ q A c, Hid (q = refsOf n) ∧ r = .returned (.slice A q.length c) ∧ Own IDE.cells 2 46 w.heap.size w' (.slice A q.length c) q ∧ Below w.heap.size w w'
set_option maxRecDepth 100000 in
set_option maxHeartbeats 2000000 in
theorem followed_any (n : NodeE) (w : World) (hf : SlAt ValE.cells 4 w n.A n.fields) (hl : n.fields.length ≤ 10000) :
    Calls Try.prog 70 #[n.v] w (FolP n.con w) := by
  obtain ⟨E, hE⟩ : ∃ E, E = refsOf n.con := ⟨_, rfl⟩
  unfold FolP
  rw [← hE]
  obtain ⟨m1, m2, mk, mc, mA, mp, mf⟩ := n
  have hfE := hide (show ∀ u [Later w u], SlAt ValE.cells 4 u mA mf from fun u i => hf.below i.below)
  dsimp only at hl
  have HE := hide hE
  clear hE hf
  dsimp only [NodeE.v]
  go_enter Try.func70, Try.ntmps70
  go_upto_region 1 with fail
  refine wp_name ?_
  intro w1 hw1
  obtain ⟨B0, l1⟩ := box1 hw1
  clear hw1
  have l11 : Later w1 w1 := Later.refl
  have hb1 : Below w.heap.size w w1 := (l1 w).below
  by_cases hk : mk = 2
  · subst hk
    go_wp2_with fail
    go_ret
    exact ⟨[], none, 0, hide (by rw [HE.out]; simp [refsOf, NodeE.con]), rfl, Own.nil, below_of⟩
  have hk' : (mk == 2) = false := by simpa using hk
  go_upto_region 5 with fail
  go_loopw [3, 12] (fun tv kv w3 => ∃ (k : Nat) (TB : Option Addr) (Td : Nat) (T' : List IDE), k ≤ mf.length ∧ kv = .int .i64 k ∧ Hid (T' = refsTo mf k) ∧ tv = .slice TB T'.length Td ∧ Own IDE.cells 2 46 w.heap.size w3 (.slice TB T'.length Td) T' ∧ Below w.heap.size w w3 ∧ w1.heap.size ≤ w3.heap.size ∧ w3.heap[w.heap.size]? = some (.cells #[.int .i64 m1, .int .i64 m2, .int .i64 mk, .int .i64 mc, .slice mA mf.length mp] 56 (0, 0))) (fun _ kv _ => mf.length - (intOf kv).toNat)
  case atStart => exact ⟨0, none, 0, [], by omega, rfl, hide rfl, rfl, Own.nil, hb1, Nat.le_refl _, (B0 w1).1⟩
  case round =>
    obtain ⟨k, TB, Td, T', hk2, rfl, hT', rfl, hoT, hbr, hzr, h0r⟩ := hrel
    have lr := later hbr
    have lrr : Later wr wr := Later.refl
    have hT'l := hide (show T'.length ≤ k by rw [hT'.out]; exact refsTo_len mf k)
    by_cases hlt2 : k < mf.length
    · obtain ⟨b2, o2, v, rfl, hv, C5⟩ := ValE.get (hfE.out wr) hlt2
      have hki : (k : Int) < (mf.length : Int) := by omega
      have hS := hide (refsTo_succ hv)
      clear hv
      go_upto_region 7 with fail
      refine wp_name ?_
      intro w4 hw4
      obtain ⟨B4, l4⟩ := box1 hw4
      have hz4 : wr.heap.size ≤ w4.heap.size := by rw [← hw4]; simp
      clear hw4
      have h04 := blk_below h0r (l4 wr).below
      have hz04 : w.heap.size ≤ w4.heap.size := Nat.le_trans hbr.size hz4
      by_cases hv2 : v.kind = 2
      · have hTn := hide (show T' ++ [v.ref] = refsTo mf (k + 1) by rw [hS.out, hT'.out, if_pos hv2])
        have hTl := hide (show T'.length + 1 = (T' ++ [v.ref]).length by simp)
        go_upto_region 9 with (at_builtin; refine wpList_app1 rfl (.tmp 19) (.tmp 22) rfl IDE.enc idT v.ref rfl rfl rfl (hoT.later _) (by rfl) (by have := hT'l.out; omega) (by unfold maxLen; have := hT'l.out; omega) hz04 ?_; intro A5 c5 w6 ho5 hm5 hb5 hg5 hat5)
        have h06 := heap_grownOwn (hoT.later w4) hg5 h04 (by decide)
        go_wp2_with fail
        go_roundw
        case rel =>
          have hb46 : Below w.heap.size w4 w6 := hb5
          exact ⟨k + 1, A5, c5, T' ++ [v.ref], by omega, by go_num, hTn, by rw [← hTl.out], by rw [← hTl.out]; exact ho5, (hbr.trans ((l4 wr).below.mono hbr.size)).trans hb46, Nat.le_trans hzr (Nat.le_trans hz4 hb46.size), h06⟩
        case measure => simp [intOf]; omega
      · have hv2' : (v.kind == 2) = false := by simpa using hv2
        have hTn := hide (show T' = refsTo mf (k + 1) by rw [hS.out, hT'.out, if_neg hv2, List.append_nil])
        go_wp2_with fail
        go_roundw
        case rel => exact ⟨k + 1, TB, Td, T', by omega, by go_num, hTn, rfl, hoT.later _, below_of, Nat.le_trans hzr hz4, h04⟩
        case measure => simp [intOf]; omega
    · have hk' : k = mf.length := by omega
      subst hk'
      go_wp2_with fail
      go_ret
      exact ⟨T', TB, Td, hide (by rw [HE.out, hT'.out]; exact refsTo_all (n := NodeE.con ⟨m1, m2, mk, mc, mA, mp, mf⟩) hk), rfl, hoT, below_of⟩
end Go.Proofs.Ytffnogjgnpbjlaa

namespace Go.Proofs.Ytffnogjgnpbjlaa
open Go.RowKit
/-- w' is w, but for the blocks that s names, and for new ones. -/
structure Only (s : Nat → Prop) (w w' : World) : Prop where
  os : w'.os = w.os
  tape : w'.tape = w.tape
  output : w'.output = w.output
  size : w.heap.size ≤ w'.heap.size
  block : ∀ k, k < w.heap.size → ¬ s k → w'.heap[k]? = w.heap[k]?
section
variable {s s' : Nat → Prop} {w w' w'' b : World}
theorem Only.refl : Only s w w := ⟨rfl, rfl, rfl, Nat.le_refl _, fun _ _ _ => rfl⟩
theorem Only.trans (h : Only s w w') (k : Only s w' w'') : Only s w w'' :=
  ⟨k.os.trans h.os, k.tape.trans h.tape, k.output.trans h.output, Nat.le_trans h.size k.size, fun i hi hs => (k.block i (Nat.lt_of_lt_of_le hi h.size) hs).trans (h.block i hi hs)⟩
/-- Behind a first step, blocks that the first world has not are free. -/
theorem Only.trans' (h : Only s w w') (k : Only s' w' w'') (hs : ∀ k, k < w.heap.size → s' k → s k) : Only s w w'' :=
  ⟨k.os.trans h.os, k.tape.trans h.tape, k.output.trans h.output, Nat.le_trans h.size k.size, fun i hi hn => (k.block i (Nat.lt_of_lt_of_le hi h.size) (fun e => hn (hs i hi e))).trans (h.block i hi hn)⟩
theorem Only.mono (h : Only s w w') (hs : ∀ k, k < w.heap.size → s k → s' k) : Only s' w w' := ⟨h.os, h.tape, h.output, h.size, fun k hk hn => h.block k hk fun e => hn (hs k hk e)⟩
theorem Only.drew (h : Only s w w') : Only s w w'.drew := ⟨h.os, h.tape, h.output, h.size, h.block⟩
theorem Only.alloc (h : Only s w w') (o : Obj) : Only s w (w'.alloc o) :=
  ⟨h.os, h.tape, h.output, by have := h.size; simp; omega, fun k hk hn => by rw [heap_alloc_if, if_neg (by have := h.size; omega)]; exact h.block k hk hn⟩
theorem Only.setCell (h : Only s w w') {p : Addr} (hp : s p.block ∨ w.heap.size ≤ p.block) (v : Value) : Only s w (w'.setCell p v) :=
  ⟨h.os, h.tape, h.output, by have := h.size; simpa [World.setCell] using this, fun k hk hn => by
    rw [blk_far (by rintro rfl; rcases hp with hp | hp; exact hn hp; omega)]; exact h.block k hk hn⟩
theorem Only.of_below (h : Below w.heap.size w w') : Only s w w' := ⟨h.os, h.tape, h.output, h.size, fun k hk _ => h.block k hk⟩
theorem Only.below {B : Nat} (h : Only s w w') (hs : ∀ k, s k → B ≤ k) (hB : B ≤ w.heap.size) : Below B w w' :=
  ⟨h.os, h.tape, h.output, h.size, fun k hk => h.block k (by omega) fun e => by have := hs k e; omega⟩
theorem Only.later {W : World} (h : Only s w w') (hs : ∀ k, s k → W.heap.size ≤ k) [l : Later W w] : ∀ b [Later b W], Later b w' := fun b i => ⟨by
  have hb := (i.trans l).below
  refine hb.trans (h.below (fun k hk => ?_) hb.size)
  have := hs k hk; have := i.below.size; omega⟩
theorem Only.boxed (h : Only s w w') {g : Nat} {o : Obj} (hb : w.heap[g]? = some o) (hg : ¬ s g) : w'.heap[g]? = some o := (h.block g (blk_lt hb) hg).trans hb
theorem Only.grown (h : Only s w w') {g : Nat} (hs : ∀ k, s k → k = g) : w.grownBy w' (some g) := ⟨h.os, h.tape, h.output, h.size, fun k hk hn => h.block k hk fun e => hn (by rw [hs k e])⟩
theorem Only.own {α : Type} {f : α → List Value} {z : Nat} {e : TypeId} {base : Nat} {v : Value} {l : List α} (h : Only s w w') (ho : Own f z e base w v l) (hs : ∀ g, v.ownBlock = some g → ¬ s g) : Own f z e base w' v l := by
  refine ⟨ho.1, ?_⟩
  rcases ho.2 with h0 | ⟨g, cap, cur, hv, hg, hc, rest⟩
  · exact .inl h0
  · exact .inr ⟨g, cap, cur, hv, hg, h.boxed hc (hs g (by rw [hv]; rfl)), rest⟩
end
end Go.Proofs.Ytffnogjgnpbjlaa

namespace Go.Proofs.Ytffnogjgnpbjlaa
open Go.RowKit
def idxM (ids prog : List IDE) : IDE → Option Int := fun x => if x ∈ ids then some ((ids.findIdx fun y => decide (y = x) : Nat) : Int) else if x ∈ prog then some (-1) else none
theorem idxM_some {ids prog : List IDE} {x : IDE} : (idxM ids prog x).isSome = decide (x ∈ ids ∨ x ∈ prog) := by
  unfold idxM
  by_cases h1 : x ∈ ids
  · simp [h1]
  · by_cases h2 : x ∈ prog <;> simp [h1, h2]
theorem idxM_push {ids prog : List IDE} {x : IDE} (h : x ∉ ids) : mupd (idxM ids prog) x (-1) = idxM ids (x :: prog) := by
  funext y
  unfold mupd idxM
  by_cases e : y = x
  · subst e; simp [h]
  · rw [if_neg e]
    by_cases h1 : y ∈ ids
    · simp [h1]
    · simp [h1, e]
theorem idxM_pop {ids prog : List IDE} {x : IDE} (h : x ∉ ids) (h2 : x ∉ prog) : mupd (idxM ids (x :: prog)) x (ids.length : Int) = idxM (ids ++ [x]) prog := by
  funext y
  unfold mupd idxM
  by_cases e : y = x
  · subst e
    have : List.findIdx (fun z => decide (z = y)) ids = ids.length := List.findIdx_eq_length.2 fun z hz => by
      have : z ≠ y := fun e' => h (e' ▸ hz)
      simpa using this
    simp [List.findIdx_append, this, h]
  · rw [if_neg e]
    by_cases h1 : y ∈ ids
    · have h3 : List.findIdx (fun z => decide (z = y)) ids < ids.length := List.findIdx_lt_length_of_exists ⟨y, h1, by simp⟩
      simp [h1, List.findIdx_append, h3]
    · simp [h1, e]
theorem idxM_at {ids : List IDE} (hn : ids.Nodup) {i : Nat} {x : IDE} (hi : ids[i]? = some x) : idxM ids [] x = some (i : Int) := by
  have hm := List.mem_of_getElem? hi
  unfold idxM
  rw [if_pos hm]
  have h3 : List.findIdx (fun z => decide (z = x)) ids < ids.length := List.findIdx_lt_length_of_exists ⟨x, hm, by simp⟩
  have h4 : decide (ids[List.findIdx (fun z => decide (z = x)) ids] = x) = true := List.findIdx_getElem (p := fun z => decide (z = x))
  have h5 := List.getElem?_eq_getElem h3
  rw [of_decide_eq_true h4] at h5
  rw [nodup_idx hn h5 hi]
theorem idxM_none {ids : List IDE} {x : IDE} (h : x ∉ ids) : idxM ids [] x = none := by unfold idxM; simp [h]
/-- The nodes of the identities. -/
def nodesE (l : List NodeE) (ids : List IDE) : List NodeE := ids.map fun x => (firstE l x).getD zeroN
theorem nodesE_snoc {l : List NodeE} {ids : List IDE} {x : IDE} {m : NodeE} (h : firstE l x = some m) : nodesE l (ids ++ [x]) = nodesE l ids ++ [m] := by simp [nodesE, h]
theorem nodesE_len {l : List NodeE} {ids : List IDE} : (nodesE l ids).length = ids.length := by simp [nodesE]
def visitCaps (b1 b2 b3 b4 : Nat) : Array Value := #[.pointer (some ⟨b1, 0, none⟩), .pointer (some ⟨b2, 0, none⟩), .pointer (some ⟨b3, 0, none⟩), .pointer (some ⟨b4, 0, none⟩)]
/-- The state of the search: W is a world ahead of its tree and its map. -/
structure VSt (W : World) (l : List NodeE) (b1 b2 b3 b4 gI gt : Nat) (w : World) (ids prog : List IDE) (iA : Option Addr) (iC : Nat) (nA : Option Addr) (nC : Nat) : Prop where
  lw : Below W.heap.size W w
  zt : W.heap.size ≤ gt
  zi : W.heap.size ≤ gI
  h2 : w.heap[b2]? = some (.cells #[.map (some gI)] 73 (0, 0))
  h3 : w.heap[b3]? = some (.cells #[.func (.func 69) #[] #[.pointer (some ⟨b1, 0, none⟩), .pointer (some ⟨b2, 0, none⟩), .pointer (some ⟨b3, 0, none⟩), .pointer (some ⟨b4, 0, none⟩)]] 101 (0, 0))
  h4 : w.heap[b4]? = some (.cells #[.pointer (some ⟨gt, 0, none⟩)] 65 (0, 0))
  hI : MapFn IDE.vv (Value.int .i64) w gI (idxM ids prog)
  ht : w.heap[gt]? = some (.cells #[.slice iA ids.length iC, .slice nA ids.length nC, .slice none 0 0] 69 (0, 0))
  oi : Own IDE.cells 2 46 W.heap.size w (.slice iA ids.length iC) ids
  on : Own NodeE.cells 5 56 W.heap.size w (.slice nA ids.length nC) (nodesE l ids)
/-- The blocks that a visit may change. -/
def VS (gI gt : Nat) (iv nv : Value) (k : Nat) : Prop := k = gI ∨ k = gt ∨ iv.ownBlock = some k ∨ nv.ownBlock = some k
theorem mapFn_obj {κ ν : Type} {fk : κ → Value} {fv : ν → Value} {w : World} {g : Nat} {M : κ → Option ν} (h : MapFn fk fv w g M) : ∃ es ck, w.heap[g]? = some (Obj.map es ck) := by
  obtain ⟨es, ck, h1, _⟩ := h
  exact ⟨es, ck, h1⟩
section
variable {W : World} {l : List NodeE} {b1 b2 b3 b4 gI gt : Nat} {w w' : World} {ids prog : List IDE} {iA nA : Option Addr} {iC nC : Nat}
theorem VSt.below (h : VSt W l b1 b2 b3 b4 gI gt w ids prog iA iC nA nC) (hb : Below w.heap.size w w') : VSt W l b1 b2 b3 b4 gI gt w' ids prog iA iC nA nC :=
  ⟨h.lw.trans (hb.mono h.lw.size), h.zt, h.zi, blk_below h.h2 hb, blk_below h.h3 hb, blk_below h.h4 hb, h.hI.below hb, blk_below h.ht hb, h.oi.below hb, h.on.below hb⟩
theorem VSt.ne (h : VSt W l b1 b2 b3 b4 gI gt w ids prog iA iC nA nC) {k : Nat} {cs : Array Value} {t : TypeId} (hk : w.heap[k]? = some (.cells cs t (0, 0))) (h1 : t ≠ 69) (h2 : t ≠ 46) (h3 : t ≠ 56) : ¬ VS gI gt (.slice iA ids.length iC) (.slice nA ids.length nC) k := by
  rintro (e | e | e | e)
  · subst e
    obtain ⟨es, ck, hm⟩ := mapFn_obj h.hI
    rw [hk] at hm; cases hm
  · subst e
    rw [h.ht] at hk
    injection hk with hk
    injection hk with _ hk _
    exact h1 hk.symm
  · exact own_off h.oi hk (fun e' => h2 e'.symm) e
  · exact own_off h.on hk (fun e' => h3 e'.symm) e
theorem VSt.base (h : VSt W l b1 b2 b3 b4 gI gt w ids prog iA iC nA nC) {k : Nat} (hk : VS gI gt (.slice iA ids.length iC) (.slice nA ids.length nC) k) : W.heap.size ≤ k := by
  rcases hk with e | e | e | e
  · rw [e]; exact h.zi
  · rw [e]; exact h.zt
  · exact (World.ownsRow.lt h.oi _ e).1
  · exact (World.ownsRow.lt h.on _ e).1
theorem VSt.lt (h : VSt W l b1 b2 b3 b4 gI gt w ids prog iA iC nA nC) {k : Nat} (hk : VS gI gt (.slice iA ids.length iC) (.slice nA ids.length nC) k) : k < w.heap.size := by
  rcases hk with e | e | e | e
  · rw [e]; exact h.hI.lt
  · rw [e]; exact blk_lt h.ht
  · exact (World.ownsRow.lt h.oi _ e).2
  · exact (World.ownsRow.lt h.on _ e).2
theorem only_grown {u u' : World} {row : Option Nat} (hg : u.grownBy u' row) : Only (fun k => row = some k) u u' := by
  obtain ⟨a, b, c, d, e⟩ := hg
  exact ⟨a, b, c, d, fun k hk hn => e k hk (fun h => hn (by first | exact h | exact h.symm))⟩
theorem own_new {v v' : Value} {z n : Nat} (h : v'.ownBlock = v.ownBlock ∨ ∃ g, z ≤ g ∧ v'.ownBlock = some g) (hz : n ≤ z) : ∀ k, v'.ownBlock = some k → v.ownBlock = some k ∨ n ≤ k := fun k hk => by
  rcases h with h | ⟨g, h1, h2⟩
  · exact .inl (h ▸ hk)
  · rw [h2] at hk; injection hk with hk; exact .inr (by omega)
theorem by_final {F G : Prop} (h : F → G) (hf : F) : G := h hf
theorem wpAnyH_cast {P : Program} {md : Region.Mode} {ops : Array Oper} {Q : Exit → Act → World → Prop} {S : World → Prop} {n : Nat} {l l' : Array Bool} {a : Act} {w : World} (h : l = l') (hw : wpAnyH P md ops Q S n l' a w) : wpAnyH P md ops Q S n l a w := h ▸ hw
theorem only_putAt {u : World} {g : Nat} {o : Obj} : Only (fun k => k = g) u (putAt u g o) := ⟨rfl, rfl, rfl, by rw [putAt_size]; exact Nat.le_refl _, fun k _ hn => putAt_heap hn⟩
/-- The map has changed alone. -/
theorem VSt.put (h : VSt W l b1 b2 b3 b4 gI gt w ids prog iA iC nA nC) {o : Obj} {prog' : List IDE} (hI : MapFn IDE.vv (Value.int .i64) (putAt w gI o) gI (idxM ids prog')) : VSt W l b1 b2 b3 b4 gI gt (putAt w gI o) ids prog' iA iC nA nC := by
  obtain ⟨es, ck, hm⟩ := mapFn_obj h.hI
  have hne : ∀ {k : Nat} {cs : Array Value} {t : TypeId} {fr : Nat × Nat}, w.heap[k]? = some (.cells cs t fr) → k ≠ gI := fun hx e => by rw [e, hm] at hx; cases hx
  have ho : ∀ {α : Type} {f : α → List Value} {s : Nat} {e : TypeId} {base : Nat} {v : Value} {l : List α}, Own f s e base w v l → v.ownBlock ≠ some gI := fun ho hv => by
    obtain ⟨cs, hc⟩ := own_type ho hv
    exact hne hc rfl
  exact ⟨putAt_below h.lw h.zi, h.zt, h.zi, (putAt_heap (hne h.h2)).trans h.h2, (putAt_heap (hne h.h3)).trans h.h3, (putAt_heap (hne h.h4)).trans h.h4, hI, (putAt_heap (hne h.ht)).trans h.ht, h.oi.putAt (ho h.oi), h.on.putAt (ho h.on)⟩
end
/-- The map has changed alone: the rest. -/
theorem VSt.put2 {W : World} {l : List NodeE} {b1 b2 b3 b4 gI gt : Nat} {w : World} {ids prog : List IDE} {iA nA : Option Addr} {iC nC : Nat} (h : VSt W l b1 b2 b3 b4 gI gt w ids prog iA iC nA nC) (o : Obj) :
    Below W.heap.size W (putAt w gI o) ∧ (putAt w gI o).heap[b2]? = w.heap[b2]? ∧ (putAt w gI o).heap[b3]? = w.heap[b3]? ∧ (putAt w gI o).heap[b4]? = w.heap[b4]? ∧ (putAt w gI o).heap[gt]? = w.heap[gt]? ∧
      Own IDE.cells 2 46 W.heap.size (putAt w gI o) (.slice iA ids.length iC) ids ∧ Own NodeE.cells 5 56 W.heap.size (putAt w gI o) (.slice nA ids.length nC) (nodesE l ids) := by
  obtain ⟨es, ck, hm⟩ := mapFn_obj h.hI
  have hne : ∀ {k : Nat} {cs : Array Value} {t : TypeId} {fr : Nat × Nat}, w.heap[k]? = some (.cells cs t fr) → k ≠ gI := fun hx e => by rw [e, hm] at hx; cases hx
  have ho : ∀ {α : Type} {f : α → List Value} {s : Nat} {e : TypeId} {base : Nat} {v : Value} {l : List α}, Own f s e base w v l → v.ownBlock ≠ some gI := fun ho hv => by
    obtain ⟨cs, hc⟩ := own_type ho hv
    exact hne hc rfl
  exact ⟨putAt_below h.lw h.zi, putAt_heap (hne h.h2), putAt_heap (hne h.h3), putAt_heap (hne h.h4), putAt_heap (hne h.ht), h.oi.putAt (ho h.oi), h.on.putAt (ho h.on)⟩
/-- What a visit leaves. -/
def VPost (W : World) (l : List NodeE) (roots : List IDE) (b1 b2 b3 b4 gI gt : Nat) (ids prog : List IDE) (iv nv : Value) (x : IDE) (w : World) (r : Ending) (w' : World) : Prop :=
  r = .returned (.tuple #[]) ∧ ∃ (ids' : List IDE) (iA' : Option Addr) (iC' : Nat) (nA' : Option Addr) (nC' : Nat), VSt W l b1 b2 b3 b4 gI gt w' ids' prog iA' iC' nA' nC' ∧ DfsI (conL l) roots ids' prog ∧ (∀ y ∈ ids, y ∈ ids') ∧ ((firstN (conL l) x).isSome → x ∈ ids' ∨ x ∈ prog) ∧
    Only (VS gI gt iv nv) w w' ∧ ∀ k, VS gI gt (.slice iA' ids'.length iC') (.slice nA' ids'.length nC') k → VS gI gt iv nv k ∨ w.heap.size ≤ k
end Go.Proofs.Ytffnogjgnpbjlaa

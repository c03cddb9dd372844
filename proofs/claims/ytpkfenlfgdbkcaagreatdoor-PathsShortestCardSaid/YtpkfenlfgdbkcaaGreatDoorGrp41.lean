/-
  Small texts of this seat, put into one. Conditions stand in each theorem.
-/
import Derived.Test.YtpkfenlfgdbkcaaGreatDoorGrp40
import Derived.Test.YtpkfenlfgdbkcaaGreatDoorGrp36
import Derived.Test.YtpkfenlfgdbkcaaGreatDoorGrp38
import Derived.OwnWalkIn
import Derived.Shelf.SlSortCmp.WholeK
import Derived.Ground.SlsfProg
import Derived.Test.YtpkfenlfgdbkcaaGreatDoorProg
import Derived.Test.YtpkfenlfgdbkcaaGreatDoorGrp39
import Derived.Test.YtpkfenlfgdbkcaaGreatDoorGrp33
import Derived.Shelf.SlSortCmp.NoneTotal
set_option linter.unusedSimpArgs false
set_option linter.unusedVariables false
namespace Go.Proofs.YtpkfenlfgdbkcaaGreatDoor
open Go.RowKit
attribute [local go_sem ↓] run_eql_id run_neq_id
attribute [local simp] heap_drew
/-- A graph of the call's own: nodes and their fields. -/
structure OwnG (base : Nat) (w : World) (A : Option Addr) (c : Nat) (o : List NodeE) : Prop where
  s : Own NodeE.cells 5 41 base w (.slice A o.length c) o
  f : ∀ m ∈ o, Own ValE.cells 4 100 base w (.slice m.A m.fields.length m.c) m.fields
  c : ∀ m ∈ o, m.fields.length ≤ m.c ∧ m.c ≤ maxLen
theorem OwnG.below {base : Nat} {w w' : World} {A : Option Addr} {c : Nat} {o : List NodeE} (h : OwnG base w A c o) (hb : Below w.heap.size w w') : OwnG base w' A c o := ⟨h.s.below hb, fun m hm => (h.f m hm).below hb, h.c⟩
theorem OwnG.nil {base : Nat} {w : World} : OwnG base w none 0 [] := ⟨Own.nil, (fun m hm => by cases hm), (fun m hm => by cases hm)⟩
theorem OwnG.nodes {base : Nat} {w : World} {A : Option Addr} {c : Nat} {o : List NodeE} (h : OwnG base w A c o) : NodesAt w A o := ⟨(h.s.at_ NodeE.enc).2.2, fun m hm => ((h.f m hm).at_ ValE.enc).2.2, h.c⟩
/-- A store into a block of another type. -/
theorem OwnG.set {base : Nat} {w : World} {A : Option Addr} {c : Nat} {o : List NodeE} (h : OwnG base w A c o) {g : Nat} {cs : Array Value} {fr : Nat × Nat} (hg : w.heap[g]? = some (.cells cs 36 fr)) (i : Nat) (v : Value) : OwnG base (w.setCell ⟨g, i, none⟩ v) A c o :=
  ⟨h.s.far (p := ⟨g, i, none⟩) (own_off h.s hg (by decide)) v, fun m hm => (h.f m hm).far (p := ⟨g, i, none⟩) (own_off (h.f m hm) hg (by decide)) v, h.c⟩
theorem OwnG.putMap {base : Nat} {w : World} {A : Option Addr} {c : Nat} {o : List NodeE} (h : OwnG base w A c o) {g : Nat} {O : Obj} (hg : g < base) : OwnG base (putAt w g O) A c o :=
  ⟨h.s.putAt (fun e => absurd (World.ownsRow.lt h.s g e).1 (by omega)), fun m hm => (h.f m hm).putAt (fun e => absurd (World.ownsRow.lt (h.f m hm) g e).1 (by omega)), h.c⟩
theorem con_at (n : NodeE) (A : Option Addr) (c : Nat) : (nodeAt n A c).con = n.con := rfl
theorem conL_snoc (o : List NodeE) (n : NodeE) (A : Option Addr) (c : Nat) : conL (o ++ [nodeAt n A c]) = conL o ++ [n.con] := by unfold conL; rw [List.map_append]; rfl
def RestrSPost (l : List NodeE) (ks : List IDE) (w : World) (r : Ending) (w' : World) : Prop := ∃ o OA OC, Hid (conL o = restr (conL l) ks) ∧ r = .returned (.agg #[.slice OA o.length OC]) ∧ OwnG w.heap.size w' OA OC o ∧ Below w.heap.size w w'
end Go.Proofs.YtpkfenlfgdbkcaaGreatDoor

namespace Go.Proofs.YtpkfenlfgdbkcaaGreatDoor
open Go.RowKit
/-- The entry that has come reads as k, v, in each later world. -/
def EntL (P : Program) (r : Nat) (k v : Value) (w : World) : Prop := ∀ (u : World) [Later w u], (Instr.entry (.pointer (some ⟨r, 0, none⟩))).run P u = .ok (.tuple #[k, v]) u
theorem EntL.out {P : Program} {r : Nat} {k v : Value} {w : World} (h : EntL P r k v w) : ∀ (u : World) [Later w u], (Instr.entry (.pointer (some ⟨r, 0, none⟩))).run P u = .ok (.tuple #[k, v]) u := h
section
variable {κ α : Type} {fk : κ → Value} {fv : α → Value} {kf : α → κ} {g r : Nat} {l : List α} {idxs : List Nat}
variable {P : Program} {w : World} {ops : Array Oper} {rest : List Oper} {o : Oper} {a : Act} {Q : Exit → Act → World → Prop}
theorem wpList_rangeL (hg : o.guard = none) (m : Operand) (t : TypeId) (hop : o.op = Op.range t m) {kt et : TypeId} (ht : P.underlying t = some (.map kt et)) (hm : a.eval m = .map (some g)) (h : MapL fk fv kf w g l)
    (hK : ∀ w', RangeL fk fv kf w' g w.heap.size l [] → Below w.heap.size w w' → w'.heap.size = w.heap.size + 1 → wpList P ops Q rest (a.put o.dst (.pointer (some ⟨w.heap.size, 0, none⟩))) w') : wpList P ops Q (o :: rest) a w := by
  refine wpList_plain hg fun K' hK' => ?_
  obtain ⟨w', hrun, r1, r2, r3, r4⟩ := h.range ht
  unfold Oper.wp
  simp [execOp, hop, hm, hrun, Result.andThen]
  exact hK' _ _ (hK w' r1 r4 r3)
theorem wpList_nextL (hg : o.guard = none) (it : Operand) (hop : o.op = Op.next it false) (hit : a.eval it = .pointer (some ⟨r, 0, none⟩)) (h : RangeL fk fv kf w g r l idxs)
    (hDone : (∀ i, i < l.length → i ∈ idxs) → wpList P ops Q rest (a.put o.dst (.tuple #[.bool false])) w)
    (hMore : ∀ (i : Nat) (x : α) (w' : World), l[i]? = some x → i ∉ idxs → RangeL fk fv kf w' g r l (idxs ++ [i]) → EntL P r (fk (kf x)) (fv x) w' → w.grownBy w' (some r) → w'.heap.size = w.heap.size → (∀ B, B ≤ r → Below B w w') →
      wpList P ops Q rest (a.put o.dst (.tuple #[.bool true, fk (kf x), fv x])) w') : wpList P ops Q (o :: rest) a w := by
  refine wpList_plain hg fun K' hK' => ?_
  unfold Oper.wp
  rcases h.next (P := P) o.type with ⟨hall, hrun⟩ | ⟨i, x, w', hx, hi, hrun, hrg, hen, hgr, hsz, hb⟩
  · simp [execOp, hop, hit, hrun, Result.andThen]
    exact hK' _ _ (hDone hall)
  · simp [execOp, hop, hit, hrun, Result.andThen]
    exact hK' _ _ (hMore i x w' hx hi hrg hen hgr hsz hb)
end
section
variable {κ α : Type} {fk : κ → Value} {fv : α → Value} {kf : α → κ} {g r : Nat} {l : List α} {idxs : List Nat}
variable {F : Fence} {n : Nat} {P : Program} {w : World} {ops : Array Oper} {rest : List Oper} {o : Oper} {a : Act} {Q : Exit → Act → World → Prop}
theorem wpListIn_rangeL (hg : o.guard = none) (m : Operand) (t : TypeId) (hop : o.op = Op.range t m) {kt et : TypeId} (ht : P.underlying t = some (.map kt et)) (hm : a.eval m = .map (some g)) (h : MapL fk fv kf w g l)
    (hK : ∀ w', RangeL fk fv kf w' g w.heap.size l [] → Below w.heap.size w w' → w'.heap.size = w.heap.size + 1 → w.grownBy w' none → wpListIn F n P ops Q rest (a.put o.dst (.pointer (some ⟨w.heap.size, 0, none⟩))) w') : wpListIn F n P ops Q (o :: rest) a w := by
  refine wpListIn_plain hg fun K' hK' => ?_
  obtain ⟨w', hrun, r1, r2, r3, r4⟩ := h.range ht
  unfold Oper.wpIn
  refine ⟨?_, ?_⟩
  · simp [Oper.about, hop]
  · rw [Oper.semAt_plain F _ _ (by rw [hop]; intro c hc'; cases hc')]
    simp [execOp, hop, hm, hrun, Result.andThen]
    exact hK' _ _ (hK w' r1 r4 r3 r2)
theorem wpListIn_nextL (hg : o.guard = none) (it : Operand) (hop : o.op = Op.next it false) (hit : a.eval it = .pointer (some ⟨r, 0, none⟩)) (h : RangeL fk fv kf w g r l idxs)
    (hDone : (∀ i, i < l.length → i ∈ idxs) → wpListIn F n P ops Q rest (a.put o.dst (.tuple #[.bool false])) w)
    (hMore : ∀ (i : Nat) (x : α) (w' : World), l[i]? = some x → i ∉ idxs → RangeL fk fv kf w' g r l (idxs ++ [i]) → EntL P r (fk (kf x)) (fv x) w' → w.grownBy w' (some r) → w'.heap.size = w.heap.size → (∀ B, B ≤ r → Below B w w') →
      wpListIn F n P ops Q rest (a.put o.dst (.tuple #[.bool true, fk (kf x), fv x])) w') : wpListIn F n P ops Q (o :: rest) a w := by
  refine wpListIn_plain hg fun K' hK' => ?_
  unfold Oper.wpIn
  refine ⟨by simp [Oper.about, hop], ?_⟩
  rw [Oper.semAt_plain F _ _ (by rw [hop]; intro c hc'; cases hc')]
  rcases h.next (P := P) o.type with ⟨hall, hrun⟩ | ⟨i, x, w', hx, hi, hrun, hrg, hen, hgr, hsz, hb⟩
  · simp [execOp, hop, hit, hrun, Result.andThen]
    exact hK' _ _ (hDone hall)
  · simp [execOp, hop, hit, hrun, Result.andThen]
    exact hK' _ _ (hMore i x w' hx hi hrg hen hgr hsz hb)
end
/-! ### Worlds in which all but one block stays -/
/-- w is b, some steps later, in which nothing but block g was written. -/
abbrev Gro (g : Nat) (b w : World) : Prop := Nonempty (b.grownBy w (some g))
section
variable {g : Nat} {b w w' u : World}
theorem Gro.out (h : Gro g b w) : b.grownBy w (some g) := by obtain ⟨x⟩ := h; exact x
instance Gro.refl : Gro g w w := ⟨World.grownBy.refl w _⟩
instance Gro.drew [h : Gro g b w] : Gro g b w.drew := ⟨h.out.os, h.out.tape, h.out.output, h.out.size, h.out.block⟩
instance Gro.drewN {n : Nat} [h : Gro g b w] : Gro g b (w.drewN n) := ⟨h.out.os, h.out.tape, h.out.output, h.out.size, h.out.block⟩
instance Gro.alloc {o : Obj} [h : Gro g b w] : Gro g b (w.alloc o) := ⟨h.out.trans (World.grownBy_alloc w o (some g))⟩
instance Gro.later [h : Later b w] : Gro g b w := ⟨grown_below h.below _⟩
instance Gro.putAt {o : Obj} [h : Gro g b w] : Gro g b (putAt w g o) := ⟨h.out.trans ⟨rfl, rfl, rfl, by simp [putAt_size], fun k _ hk => putAt_heap (fun e => hk (by rw [e]))⟩⟩
theorem Gro.trans {c : World} (h : Gro g b w) (k : Gro g w c) : Gro g b c := ⟨h.out.trans k.out⟩
theorem gro (h : w.grownBy w' (some g)) : ∀ b [Gro g b w], Gro g b w' := fun _ i => ⟨i.out.trans h⟩
theorem gro_below (h : Below w.heap.size w w') : ∀ b [Gro g b w], Gro g b w' := fun _ i => ⟨i.out.trans (grown_below h _)⟩
theorem gro_of [h : Gro g b w] : b.grownBy w (some g) := h.out
theorem Gro.cell {a : Addr} {v : Value} (hne : a.block ≠ g) (h : b.cell? a = some v) : ∀ u [Gro g b u], u.cell? a = some v := fun u i => by
  have hlt := World.block_lt_of_cell? b a h
  have hb := i.out.block a.block hlt (fun e => hne (by injection e))
  rw [World.cell?, hb, ← World.cell?]; exact h
theorem boxed_gro {c : Array Value} {t : TypeId} {n : Nat} (h : Boxed w n c t) (hne : n ≠ g) : ∀ (u : World) [Gro g w u], u.heap[n]? = some (.cells c t (0, 0)) ∧ ∀ (i : Nat), u.cell? ⟨n, i, none⟩ = c[i]? ∧ u.frozen? ⟨n, i, none⟩ = false := fun u i => by
  have e : u.heap[n]? = some (.cells c t (0, 0)) := (i.out.block n (boxed_lt h) (fun e => hne (by injection e))).trans (h w).1
  exact ⟨e, fun j => ⟨blk_cell e j, blk_free e j⟩⟩
theorem grown_belowG {B : Nat} (h : w.grownBy w' (some g)) (hB : B ≤ g) (hw : B ≤ w.heap.size) : Below B w w' := (Below.refl B w).grown h hw fun k hk => by injection hk with hk; omega
end
end Go.Proofs.YtpkfenlfgdbkcaaGreatDoor

namespace Go.Proofs
open Go.Shelf
def Tryz.sortV_ren : Go.Shelf.Ren := ⟨fun | 6 => 68 | 15 => 100 | 14 => 99 | 28 => 125 | 29 => 126 | 20 => 117 | 21 => 118 | 22 => 119 | 23 => 120 | 24 => 121 | 25 => 122 | 26 => 123 | 27 => 124 | 46 => 144 | 47 => 145 | 48 => 146 | 49 => 147 | 50 => 148 | 57 => 156 | n => n, fun | 22 => 34 | 24 => 41 | 25 => 141 | 3 => 3 | 39 => 169 | 0 => 0 | 53 => 190 | 55 => 67 | 4 => 4 | 46 => 184 | 45 => 183 | 50 => 113 | 5 => 5 | 9 => 9 | 66 => 205 | 70 => 209 | 76 => 217 | 77 => 218 | n => n, fun | n => n⟩
theorem Tryz.sortV : Go.Proofs.SlLaysF0.n6 Tryz.prog Tryz.sortV_ren := {
  mixed := by kernel_rfl
  f6 := ⟨Tryz.f68.name, by decide, Tryz.func68.trans (congrArg some (by kernel_rfl))⟩
  f14 := ⟨Tryz.f99.name, by decide, Tryz.func99.trans (congrArg some (by kernel_rfl))⟩
  f15 := Tryz.func100.trans (congrArg some (by kernel_rfl))
  f20 := ⟨Tryz.f117.name, by decide, Tryz.func117.trans (congrArg some (by kernel_rfl))⟩
  f21 := ⟨Tryz.f118.name, by decide, Tryz.func118.trans (congrArg some (by kernel_rfl))⟩
  f22 := ⟨Tryz.f119.name, by decide, Tryz.func119.trans (congrArg some (by kernel_rfl))⟩
  f23 := ⟨Tryz.f120.name, by decide, Tryz.func120.trans (congrArg some (by kernel_rfl))⟩
  f24 := ⟨Tryz.f121.name, by decide, Tryz.func121.trans (congrArg some (by kernel_rfl))⟩
  f25 := ⟨Tryz.f122.name, by decide, Tryz.func122.trans (congrArg some (by kernel_rfl))⟩
  f26 := ⟨Tryz.f123.name, by decide, Tryz.func123.trans (congrArg some (by kernel_rfl))⟩
  f27 := ⟨Tryz.f124.name, by decide, Tryz.func124.trans (congrArg some (by kernel_rfl))⟩
  f28 := Tryz.func125.trans (congrArg some (by kernel_rfl))
  f29 := Tryz.func126.trans (congrArg some (by kernel_rfl))
  f46 := ⟨Tryz.f144.name, by decide, Tryz.func144.trans (congrArg some (by kernel_rfl))⟩
  f47 := Tryz.func145.trans (congrArg some (by kernel_rfl))
  f48 := Tryz.func146.trans (congrArg some (by kernel_rfl))
  f49 := ⟨Tryz.f147.name, by decide, Tryz.func147.trans (congrArg some (by kernel_rfl))⟩
  f50 := ⟨Tryz.f148.name, by decide, Tryz.func148.trans (congrArg some (by kernel_rfl))⟩
  f57 := ⟨Tryz.f156.name, by decide, Tryz.func156.trans (congrArg some (by kernel_rfl))⟩
  t0 := Tryz.underlying0
  a0 := Tryz.isAgg0
  z0 := Tryz.sizeOf0
  v0 := Tryz.zeroValue0
  t3 := Tryz.underlying3
  a3 := Tryz.isAgg3
  z3 := Tryz.sizeOf3
  v3 := Tryz.zeroValue3
  t4 := Tryz.underlying4
  a4 := Tryz.isAgg4
  z4 := Tryz.sizeOf4
  v4 := Tryz.zeroValue4
  t5 := Tryz.underlying5
  a5 := Tryz.isAgg5
  z5 := Tryz.sizeOf5
  v5 := Tryz.zeroValue5
  t9 := Tryz.underlying9
  a9 := Tryz.isAgg9
  z9 := Tryz.sizeOf9
  v9 := Tryz.zeroValue9
  t22 := Tryz.underlying34
  a22 := Tryz.isAgg34
  z22 := Tryz.sizeOf34
  v22 := Tryz.zeroValue34
  t25 := Tryz.underlying141
  a25 := Tryz.isAgg141
  z25 := Tryz.sizeOf141
  v25 := Tryz.zeroValue141
  t39 := Tryz.underlying169
  a39 := Tryz.isAgg169
  z39 := Tryz.sizeOf169
  v39 := Tryz.zeroValue169
  t45 := Tryz.underlying183
  a45 := Tryz.isAgg183
  z45 := Tryz.sizeOf183
  v45 := Tryz.zeroValue183
  t46 := Tryz.underlying184
  a46 := Tryz.isAgg184
  z46 := Tryz.sizeOf184
  v46 := Tryz.zeroValue184
  t50 := Tryz.underlying113
  a50 := Tryz.isAgg113
  z50 := Tryz.sizeOf113
  v50 := Tryz.zeroValue113
  t53 := Tryz.underlying190
  a53 := Tryz.isAgg190
  z53 := Tryz.sizeOf190
  v53 := Tryz.zeroValue190
  t55 := Tryz.underlying67
  a55 := Tryz.isAgg67
  z55 := Tryz.sizeOf67
  v55 := Tryz.zeroValue67
  t66 := Tryz.underlying205
  a66 := Tryz.isAgg205
  z66 := Tryz.sizeOf205
  v66 := Tryz.zeroValue205
  t70 := Tryz.underlying209
  a70 := Tryz.isAgg209
  z70 := Tryz.sizeOf209
  v70 := Tryz.zeroValue209
  t76 := Tryz.underlying217
  a76 := Tryz.isAgg217
  z76 := Tryz.sizeOf217
  v76 := Tryz.zeroValue217
  t77 := Tryz.underlying218
  a77 := Tryz.isAgg218
  z77 := Tryz.sizeOf218
  v77 := Tryz.zeroValue218 }
end Go.Proofs

namespace Go.Proofs.YtpkfenlfgdbkcaaGreatDoor
open Go.RowKit
attribute [local go_sem] Oper.semAt_some
attribute [local simp] heap_drew
def conGs (gs : List GrE) : List (List NodeC) := gs.map fun g => conL g.l
theorem conGs_take {gs : List GrE} {j : Nat} {g : GrE} (h : gs[j]? = some g) : (conGs (gs.take (j + 1))).flatten = (conGs (gs.take j)).flatten ++ conL g.l := by
  unfold conGs
  rw [List.take_add_one, h]
  simp
theorem conL_take {l : List NodeE} {k : Nat} {n : NodeE} (h : l[k]? = some n) : (conL l).take (k + 1) = (conL l).take k ++ [n.con] := by
  rw [List.take_add_one]
  unfold conL
  rw [List.getElem?_map, h]
  rfl
theorem flat_split {gs : List GrE} {j k : Nat} {g : GrE} {n : NodeE} (h : gs[j]? = some g) (hn : g.l[k]? = some n) : ∃ rest, (conGs gs).flatten = ((conGs (gs.take j)).flatten ++ (conL g.l).take k) ++ n.con :: rest := by
  refine ⟨(conL g.l).drop (k + 1) ++ (conGs (gs.drop (j + 1))).flatten, ?_⟩
  have h1 : (conGs gs).flatten = (conGs (gs.take (j + 1))).flatten ++ (conGs (gs.drop (j + 1))).flatten := by
    unfold conGs
    rw [← List.flatten_append, ← List.map_append, List.take_append_drop]
  rw [h1, conGs_take h]
  have h2 : conL g.l = (conL g.l).take k ++ n.con :: (conL g.l).drop (k + 1) := by
    have := List.take_append_drop (k + 1) (conL g.l)
    rw [conL_take hn] at this
    conv => lhs; rw [← this]
    simp
  conv => lhs; rw [h2]
  simp [List.take_append, List.drop_append]
theorem unionC_none {gs : List GrE} (hv : ∀ g ∈ gs, valid16B (conL g.l) = true) (h : putAll [] (conGs gs).flatten = none) : unionC (conGs gs) = ([], 9) := by
  unfold unionC
  rw [if_pos (List.all_eq_true.2 fun x hx => by obtain ⟨g, hg, rfl⟩ := List.mem_map.1 hx; exact hv g hg), h]
theorem unionC_some {gs : List GrE} {q : List NodeC} (hv : ∀ g ∈ gs, valid16B (conL g.l) = true) (h : putAll [] (conGs gs).flatten = some q) : unionC (conGs gs) = (q, 0) := by
  unfold unionC
  rw [if_pos (List.all_eq_true.2 fun x hx => by obtain ⟨g, hg, rfl⟩ := List.mem_map.1 hx; exact hv g hg), h]
theorem pick_snoc {α : Type} {l : List α} {idxs : List Nat} {i : Nat} {x : α} (hx : l[i]? = some x) : pickL l (idxs ++ [i]) = pickL l idxs ++ [x] := by
  unfold pickL; rw [List.filterMap_append]; simp [hx]
theorem pick_len {α : Type} {l : List α} {idxs : List Nat} : (pickL l idxs).length ≤ idxs.length := by
  unfold pickL; exact List.length_filterMap_le _ _
theorem NodeE.one (x : NodeE) : ∀ v ∈ x.cells, v.oneCell' = true := by
  intro v hv
  simp only [NodeE.cells, List.mem_cons, List.not_mem_nil, or_false] at hv
  rcases hv with rfl | rfl | rfl | rfl | rfl <;> rfl
def cmpV (x y : NodeE) : Int := cmpJ x.id y.id
theorem cmpV_lt (x y : NodeE) : Go.Proofs.ltOf cmpV x y = Go.Proofs.ltOf cmpJ x.id y.id := rfl
theorem cmpV_swo : Go.Sort.SWO (Go.Proofs.ltOf cmpV) := ⟨fun x => cmpJ_swo.1 x.id, fun x y z => cmpJ_swo.2 x.id y.id z.id, fun x y z => cmpJ_swo.3 x.id y.id z.id⟩
instance inhNodeU : Inhabited NodeE := ⟨⟨0, 0, 0, 0, none, 0, []⟩⟩
set_option maxHeartbeats 1000000 in
/-- slices.SortFunc over a slice that the call made itself (or nil): it stays the call's own, its list sorted. -/
theorem sortNodes (A : Option Addr) (c : Nat) (l : List NodeE) (base : Nat) (w : World) (hown : Own NodeE.cells 5 41 base w (.slice A l.length c) l) (hl : l.length ≤ 1000000000000) (hbase : base ≤ w.heap.size) :
    Calls Tryz.prog 68 #[.slice A l.length c, .func (.func 69) #[] #[]] w fun e w' => e = .returned (.tuple #[]) ∧ ∃ l', l'.Perm l ∧ l'.Pairwise (fun x y => Go.Proofs.ltOf cmpV y x = false) ∧
      Own NodeE.cells 5 41 base w' (.slice A l.length c) l' ∧ Below base w w' ∧ w.grownBy w' (Value.slice A l.length c).ownBlock := by
  cases l with
  | nil =>
    refine (AnyF.slices_SortFunc_none Tryz.sortV A c (.func (.func 69) #[] #[]) w).mono ?_
    rintro e w' ⟨rfl, rfl⟩
    exact ⟨rfl, [], List.Perm.refl _, List.Pairwise.nil, hown, Below.refl _ _, World.grownBy.refl _ _⟩
  | cons x0 l0 =>
    obtain ⟨l, hlx⟩ : ∃ l, l = x0 :: l0 := ⟨_, rfl⟩
    obtain ⟨g, rfl⟩ := hown.isSome (by simp)
    rw [← hlx] at hown hl ⊢
    refine (AnyQ.slices_SortFunc (enc := NodeE.cells) Tryz.sortV 5 (fun w => Tryz.isAgg41 w) (fun w => Tryz.sizeOf41 w) NodeE.enc.len NodeE.one cmpV cmpV_swo 69 #[] g 0 c l.toArray w (fun args w => by kernel_rfl) ?_ (hown.holdsK NodeE.enc) hown.lt (by simp; omega)).mono ?_
    · intro m os dk _ x y
      refine (compareN_any x y _).mono ?_
      rintro e w' ⟨rfl, q, os', hw⟩
      exact ⟨rfl, q, os', hw⟩
    · rintro e w' ⟨rfl, d', n, os, hp, hs, rfl⟩
      have hsz : d'.size = l.length := by simpa using hp.1
      have hg := hown.base_le
      refine ⟨rfl, d'.toList, by simpa using perm_of_permIn (d := l.toArray) (by simpa using hp), ?_, hown.sortK NodeE.enc hsz, sortK_below hg hbase, sortK_grownBy⟩
      exact pairwise_of_sortedIn (by rw [hsz]; simpa using hs)
theorem zeroNode (w : World) : (zeroValue 41).run Tryz.prog w = .ok (.agg #[.int .i64 0, .int .i64 0, .int .i64 0, .int .i64 0, .slice none 0 0]) w := by kernel_rfl
theorem sorted_of {l : List NodeE} (h : l.Pairwise (fun x y => Go.Proofs.ltOf cmpV y x = false)) (hn : (l.map NodeE.id).Nodup) : SortedN (conL l) := by
  have h1 : (l.map NodeE.id).Pairwise (fun x y => Go.Proofs.ltOf cmpJ y x = false) := List.pairwise_map.2 h
  have h2 := sortedI_of (sortedJ h1) hn
  have h3 : ids (conL l) = l.map NodeE.id := by unfold ids conL; rw [List.map_map]; rfl
  unfold SortedN
  rw [h3]
  exact h2
end Go.Proofs.YtpkfenlfgdbkcaaGreatDoor

namespace Go.Proofs.YtpkfenlfgdbkcaaGreatDoor
open Go.RowKit
attribute [local go_sem] Oper.semAt_some
attribute [local simp] heap_drew
def UnionSPost (gs : List GrE) (w : World) (r : Ending) (w' : World) : Prop := ∃ o OA OC, Hid (conL o = (unionC (conGs gs)).1) ∧ r = .returned (.tuple #[.agg #[.slice OA o.length OC], .int .i64 ((unionC (conGs gs)).2 : Nat)]) ∧ OwnG w.heap.size w' OA OC o ∧ Below w.heap.size w w'
theorem unionS_bad {gs : List GrE} {w w' : World} {r : Ending} {e : Nat} (h : Hid (unionC (conGs gs) = ([], e))) (hr : r = .returned (.tuple #[.agg #[.slice none 0 0], .int .i64 (e : Nat)])) (hb : Below w.heap.size w w') : UnionSPost gs w r w' :=
  ⟨[], none, 0, hide (by rw [h.out]; rfl), by rw [h.out, hr]; rfl, OwnG.nil, hb⟩
theorem own_iter {α : Type} {f : α → List Value} {s : Nat} {e : TypeId} {base : Nat} {w : World} {v : Value} {l : List α} {r : Nat} (h : Own f s e base w v l) (hi : ∃ ob, w.heap[r]? = some ob ∧ ob.isWalk = true) : v.ownBlock ≠ some r := fun hv => by
  obtain ⟨cs, h1⟩ := own_type h hv
  obtain ⟨ob, h2, h3⟩ := hi
  rw [h1] at h2
  injection h2 with h2
  subst h2
  cases h3
theorem own_map {α : Type} {f : α → List Value} {s : Nat} {e : TypeId} {base : Nat} {w : World} {v : Value} {l : List α} {g : Nat} {xs : List NodeE} (h : Own f s e base w v l) (hM : MapL IDE.vv NodeE.v NodeE.id w g xs) : v.ownBlock ≠ some g := fun hv => by
  obtain ⟨cs, h1⟩ := own_type h hv
  obtain ⟨bs, cc, h2, _⟩ := hM
  rw [h1] at h2
  cases h2
theorem OwnG.walked {base : Nat} {w w' : World} {A : Option Addr} {c : Nat} {o : List NodeE} {r : Nat} (h : OwnG base w A c o) (hg : w.grownBy w' (some r)) (hi : ∃ ob, w.heap[r]? = some ob ∧ ob.isWalk = true) : OwnG base w' A c o :=
  ⟨h.s.kept hg (.inr (own_iter h.s hi)), fun m hm => (h.f m hm).kept hg (.inr (own_iter (h.f m hm) hi)), h.c⟩
theorem OwnG.sorted {base : Nat} {w w' : World} {A : Option Addr} {c : Nat} {o o' : List NodeE} (h : OwnG base w A c o) (hg : w.grownBy w' (Value.slice A o.length c).ownBlock) (hs : Own NodeE.cells 5 41 base w' (.slice A o.length c) o') (hp : o'.Perm o) : OwnG base w' A c o' :=
  ⟨by rw [hp.length_eq]; exact hs, fun m hm => by
    have hm' := hp.subset hm
    exact (Step.own (v := .slice A o.length c) (v' := .slice A o.length c) ⟨hg, .inl rfl⟩ (h.f m hm') (own_apart h.s (h.f m hm') (by decide))).1, fun m hm => h.c m (hp.subset hm)⟩
theorem union_done {l o o' : List NodeE} {q : List NodeC} {idxs : List Nat} (hR : RelU l q) (hnd : (l.map NodeE.id).Nodup) (hall : (pickL l idxs).Perm l) (ho : conL o = (pickL l idxs).map NodeE.con) (hp : o'.Perm o) (hs : o'.Pairwise (fun x y => Go.Proofs.ltOf cmpV y x = false)) : conL o' = q := by
  have h1 : (conL o').Perm (l.map NodeE.con) := by
    refine (hp.map NodeE.con).trans ?_
    show (conL o).Perm _
    rw [ho]
    exact hall.map _
  have hid : ∀ x : List NodeE, x.map NodeE.id = (x.map NodeE.con).map NodeC.id := fun x => by rw [List.map_map]; rfl
  refine relU_sorted hR hnd h1 (sorted_of hs ?_)
  rw [hid] at hnd ⊢
  exact (h1.map NodeC.id).nodup_iff.2 hnd
theorem kf {a b : Int} (h : (a == b) = false) : ¬ a = b := by simpa using h
theorem kt {a b : Int} (h : (a == b) = true) : a = b := by simpa using h
theorem nf {a b : Int} (h : (a != b) = false) : a = b := by simpa using h
theorem nt {a b : Int} (h : (a != b) = true) : ¬ a = b := by simpa using h
set_option maxRecDepth 100000 in
set_option maxHeartbeats 16000000 in
theorem unionS_any (A : Option Addr) (c : Nat) (gs : List GrE) (w : World) (H : GraphsAt w A gs) (hl : gs.length ≤ 1000000000) (ht : (conGs gs).flatten.length ≤ 10000) (hgl : ∀ g ∈ gs, g.l.length ≤ 1000000000) (hf : ∀ g ∈ gs, ∀ n ∈ g.l, n.fields.length ≤ 1000000) :
    Calls Tryz.prog 37 #[.slice A gs.length c] w (UnionSPost gs w) := by
  have HG := H.later
  have hmm := @run_makeMap Tryz.prog
  have hl' : gs.length ≤ 9223372036854775807 := by omega
  go_enter Tryz.func37, Tryz.ntmps37
  go_upto_region 1 with fail
  refine wp_name ?_
  intro w1 hw1
  have r1 : w1.heap[w.heap.size]? = some (.cells #[.slice none 0 0] 36 (0, 0)) := (by rw [← hw1]; simp only [heap_alloc_if, World.size_alloc]; repeat (first | rw [if_pos trivial] | rw [if_neg (by omega)] | rw [if_pos (by omega)]); try rfl)
  have hb1 : Below w.heap.size w w1 := by rw [← hw1]; exact (by repeat (first | with_reducible exact Below.refl _ _ | (with_reducible refine Below.drew ?_) | (with_reducible refine below_drewN ?_ _) | (with_reducible refine Below.alloc ?_ ?_ _; rotate_left; (first | omega | (simp <;> omega))) | (with_reducible refine Below.setCell ?_ ?_ _; rotate_left; (first | omega | (simp <;> omega)))))
  have hz1 : w1.heap.size = w.heap.size + 1 := by rw [← hw1]; simp
  clear hw1
  have l1 := later hb1
  go_wp2_with fail
  go_loopw [18] (fun i wr => ∃ k : Nat, k ≤ gs.length ∧ i = .int .i64 k ∧ Hid (∀ g ∈ gs.take k, valid16B (conL g.l) = true) ∧ wr.heap[w.heap.size]? = some (.cells #[.slice none 0 0] 36 (0, 0)) ∧ Below w.heap.size w wr) (fun i _ => gs.length - (intOf i).toNat)
  case atStart => exact ⟨0, by omega, rfl, hide (by simp), r1, hb1⟩
  case round =>
    clear r1 hb1 hz1 l1
    obtain ⟨k, hk, rfl, hv, hR, hbr⟩ := hrel
    have lr := later hbr
    have lrr : Later wr wr := Later.refl
    by_cases hlt : k < gs.length
    · have hki : (k : Int) < (gs.length : Int) := by omega
      obtain ⟨b0, o0, g, rfl, hg, C1, N1⟩ := (HG wr).get hlt
      have hgm := List.mem_of_getElem? hg
      have HV : ∀ u [Later wr u], Calls Tryz.prog 66 #[.agg #[.slice g.A g.l.length g.c]] u fun r w' => r = .returned (.bool (valid16B (conL g.l))) ∧ Below u.heap.size u w' := fun u i => validS_any g.A g.c g.l u (N1 u) (hgl g hgm) (fun n hn => by have := hf g hgm n hn; omega)
      have hT := hide (take_snoc_get hg)
      cases hva : valid16B (conL g.l) with
      | false =>
        have hbad : Hid (unionC (conGs gs) = ([], 1)) := hide (unionC_bad (List.mem_map.2 ⟨g, hgm, rfl⟩) hva)
        simp only [hva] at HV
        clear hg hva hgm
        go_upto_region 5 with (go_at_call 66; refine (HV _).mono ?_; rintro r w4 ⟨rfl, hb4⟩; have l4 := later hb4)
        have hb44 : Below wr.heap.size wr w4 := below_of
        have hRx := blk_below hR hb44
        have hbx : Below w.heap.size w w4 := below_of
        have BR := boxed hRx
        have l44 : Later w4 w4 := Later.refl
        go_wp2_with fail
        have rb := blk_cell (blk_set hRx 0 (.slice none 0 0)) 0
        simp at rb
        refine bodyPost_ret (v := .tuple #[.agg #[.slice none 0 0], .int .i64 1]) ?_ rfl ?_
        · simp [results, Tryz.results37, go_sem, rb]
        · exact unionS_bad (e := 1) hbad rfl (hbx.setCell (p := ⟨w.heap.size, 0, none⟩) (by simp) _)
      | true =>
        have hv2 : Hid (∀ g ∈ gs.take (k + 1), valid16B (conL g.l) = true) := hide fun g' hg' => by
          rw [hT.out] at hg'
          rcases List.mem_append.1 hg' with h | h
          · exact hv.out g' h
          · rw [List.mem_singleton.1 h]; exact hva
        simp only [hva] at HV
        clear hg hva hgm
        go_wp2_with (go_at_call 66; refine (HV _).mono ?_; rintro r w4 ⟨rfl, hb4⟩; have l4 := later hb4)
        go_roundw
        case rel =>
          have hb44 : Below wr.heap.size wr w4 := below_of
          exact ⟨k + 1, by omega, by go_num, hv2, blk_below hR hb44, below_of⟩
        case measure => simp [intOf]; omega
    · have hk' : k = gs.length := by omega
      subst hk'
      rw [List.take_length] at hv
      obtain ⟨wE, rfl⟩ : ∃ z, z = wr := ⟨_, rfl⟩
      go_upto_region 8 with fail
      refine wp_name ?_
      intro w2 hw2
      have hM2 : MapL IDE.vv NodeE.v NodeE.id w2 wE.heap.size [] := by rw [← hw2]; exact mapL_made wE
      have hb2 : Below wE.heap.size wE w2 := by rw [← hw2]; exact (by repeat (first | with_reducible exact Below.refl _ _ | (with_reducible refine Below.drew ?_) | (with_reducible refine below_drewN ?_ _) | (with_reducible refine Below.alloc ?_ ?_ _; rotate_left; (first | omega | (simp <;> omega))) | (with_reducible refine Below.setCell ?_ ?_ _; rotate_left; (first | omega | (simp <;> omega)))))
      clear hw2 hmm
      have hR2 := blk_below hR hb2
      have hbw2 : Below w.heap.size w w2 := hbr.trans (hb2.mono hbr.size)
      have hRl := blk_lt hR
      obtain ⟨gM, hgM⟩ : ∃ g, g = wE.heap.size := ⟨_, rfl⟩
      rw [← hgM] at hM2 hRl ⊢
      have hMw : w.heap.size ≤ gM := by rw [hgM]; exact hbr.size
      clear hR hbr lr lrr hgM hb2
      have lw2 := later hbw2
      go_wp2_with fail
      go_loopw [30] (fun i wr => ∃ (j : Nat) (l : List NodeE), j ≤ gs.length ∧ i = .int .i64 j ∧ Hid (∃ q, InvU gs (conGs (gs.take j)).flatten l q) ∧ MapL IDE.vv NodeE.v NodeE.id wr gM l ∧ wr.heap[w.heap.size]? = some (.cells #[.slice none 0 0] 36 (0, 0)) ∧ Below w.heap.size w wr) (fun i _ => gs.length - (intOf i).toNat)
      case atStart => exact ⟨0, [], by omega, rfl, hide ⟨[], rfl, relU_nil, by simp, by simp⟩, hM2, hR2, hbw2⟩
      case round =>
        clear hM2 hR2 hbw2 lw2
        obtain ⟨j, l0, hj, rfl, hI, hM, hR, hbr⟩ := hrel
        have lr := later hbr
        have lrr : Later wr wr := Later.refl
        by_cases hlt : j < gs.length
        · have hji : (j : Int) < (gs.length : Int) := by omega
          obtain ⟨b0, o0, g, rfl, hg, C1, N1⟩ := (HG wr).get hlt
          obtain ⟨gA, gc, gl⟩ := g
          dsimp only at C1 N1
          have Hgm := hide (List.mem_of_getElem? hg)
          have Hg := hide hg
          have hgl' : gl.length ≤ 9223372036854775807 := by have : gl.length ≤ _ := hgl _ Hgm.out; omega
          clear hg
          go_upto_region 11 with fail
          refine wp_name ?_
          intro w3 hw3
          obtain ⟨BG, l3⟩ := box1 hw3
          clear hw3
          have l33 : Later w3 w3 := Later.refl
          have lr3 : Later wr w3 := l3 wr
          have hM3 := hM.below lr3.below
          have hR3 := blk_below hR lr3.below
          have hbw3 : Below w.heap.size w w3 := hbr.trans (lr3.below.mono hbr.size)
          have hI3 : Hid (∃ q, InvU gs ((conGs (gs.take j)).flatten ++ (conL gl).take 0) l0 q) := hide (by simpa using hI.out)
          have NW : ∀ u [Later w u], NodesAt u gA gl := (H.n _ Hgm.out).later
          have hgMl := hM.lt
          obtain ⟨gB, hgB⟩ : ∃ z, z = wr.heap.size := ⟨_, rfl⟩
          rw [← hgB] at BG ⊢
          have hMB : gM ≠ gB := by omega
          have Hlt := hide hlt
          clear hM hR hbr lr lrr hI lr3 l3 N1 C1 hgMl hgB hlt hji
          have lw3 := later hbw3
          go_wp2_with fail
          go_loopw [37] (fun i wr => ∃ (k : Nat) (l : List NodeE), k ≤ gl.length ∧ i = .int .i64 k ∧ Hid (∃ q, InvU gs ((conGs (gs.take j)).flatten ++ (conL gl).take k) l q) ∧ MapL IDE.vv NodeE.v NodeE.id wr gM l ∧ wr.heap[w.heap.size]? = some (.cells #[.slice none 0 0] 36 (0, 0)) ∧ wr.heap[gB]? = some (.cells #[.slice gA gl.length gc] 36 (0, 0)) ∧ Below w.heap.size w wr) (fun i _ => gl.length - (intOf i).toNat)
          case atStart => exact ⟨0, l0, by omega, rfl, hI3, hM3, hR3, (BG w3).1, hbw3⟩
          case round =>
            clear hM3 hR3 hbw3 lw3 hI3 BG l33
            obtain ⟨k, l, hk, rfl, hI, hM, hR, hG, hbr⟩ := hrel
            have lr := later hbr
            have lrr : Later wr wr := Later.refl
            by_cases hlt : k < gl.length
            · have hki : (k : Int) < (gl.length : Int) := by omega
              have BG := boxed hG
              obtain ⟨b1, o1, n, rfl, hn, C1, F1, hf1, hf2⟩ := (NW wr).get hlt
              have hnm := List.mem_of_getElem? hn
              have hnf : n.fields.length ≤ _ := hf _ Hgm.out n hnm
              have Hn := hide hn
              have Hnm := hide hnm
              have hTk := hide (conL_take hn)
              have hSp := hide (flat_split Hg.out hn)
              clear hn hnm
              go_upto_region 14 with fail
              refine wp_name ?_
              intro w4 hw4
              obtain ⟨BN, l4⟩ := box1 hw4
              clear hw4
              obtain ⟨nB, hnB⟩ : ∃ z, z = wr.heap.size := ⟨_, rfl⟩
              rw [← hnB] at BN ⊢
              have lr4 : Later wr w4 := l4 wr
              clear hnB
              have hM4 := hM.below lr4.below
              have l44 : Later w4 w4 := Later.refl
              have HL := fun (u : World) (i : Later w4 u) => run_lookL keyI Tryz.underlying138 zeroNode (hM4.later u) n.id
              cases hfi : findK NodeE.id l n.id with
              | none =>
                have HL' : ∀ u [Later w4 u], (Instr.lookup 138 (.map (some gM)) (.agg #[.int .i64 n.iDMachine, .int .i64 n.iDSerial]) true).run Tryz.prog u = .ok (.tuple #[.agg #[.int .i64 0, .int .i64 0, .int .i64 0, .int .i64 0, .slice none 0 0], .bool false]) u := fun u i => by
                  have := HL u i
                  rw [hfi] at this
                  exact this
                clear HL
                have hI2 : Hid (∃ q, InvU gs ((conGs (gs.take j)).flatten ++ (conL gl).take (k + 1)) (putK NodeE.id l n) q) := hide (by
                  rw [hTk.out, ← List.append_assoc]
                  exact invU_new hI.out Hgm.out Hnm.out hfi)
                clear hfi hI
                obtain ⟨O, hU1, hU2, hU3, hU4⟩ := run_putL (fv := NodeE.v) (kf := NodeE.id) keyI Tryz.underlying138 hM4 n
                have hU1' : ∀ u [Later w4 u], (Instr.mapUpdate 138 (.map (some gM)) (.agg #[.int .i64 n.iDMachine, .int .i64 n.iDSerial]) (.agg #[.int .i64 n.iDMachine, .int .i64 n.iDSerial, .int .i64 n.kind, .int .i64 n.clas, .slice n.A n.fields.length n.c])).run Tryz.prog u = .ok () (putAt u gM O) := fun u i => hU1 u
                have HU2 := hide hU2
                clear hU1 hU2
                go_upto_region 15 with fail
                refine wp_name ?_
                intro w5 hw5
                obtain ⟨BO, l5⟩ := box1 hw5
                clear hw5
                have l55 : Later w5 w5 := Later.refl
                have lr5 : Later wr w5 := by infer_instance
                have hR5 := blk_below hR lr5.below
                have hG5 := blk_below hG lr5.below
                have hbx : Below w.heap.size w w5 := hbr.trans (lr5.below.mono hbr.size)
                go_wp2_with fail
                go_roundw
                case rel => exact ⟨k + 1, _, by omega, by go_num, hI2, HU2.out _, (putAt_heap (by omega)).trans hR5, (putAt_heap hMB.symm).trans hG5, putAt_below hbx hMw⟩
                case measure => simp [intOf]; omega
              | some m =>
                obtain ⟨gm, hgm, hmm⟩ : ∃ g ∈ gs, m ∈ g.l := by obtain ⟨q, hq⟩ := hI.out; exact hq.m m (findK_some hfi).1
                have FM : ∀ u [Later w u], SlAt ValE.cells 4 u m.A m.fields := fun u i => ((H.n gm hgm).f m hmm).below i.below
                have FN : ∀ u [Later w u], SlAt ValE.cells 4 u n.A n.fields := fun u i => ((H.n _ Hgm.out).f n Hnm.out).below i.below
                have hmf : m.fields.length ≤ 1000000 := hf gm hgm m hmm
                have HL' : ∀ u [Later w4 u], (Instr.lookup 138 (.map (some gM)) (.agg #[.int .i64 n.iDMachine, .int .i64 n.iDSerial]) true).run Tryz.prog u = .ok (.tuple #[.agg #[.int .i64 m.iDMachine, .int .i64 m.iDSerial, .int .i64 m.kind, .int .i64 m.clas, .slice m.A m.fields.length m.c], .bool true]) u := fun u i => by
                  have := HL u i
                  rw [hfi] at this
                  exact this
                have hKeep : mergeN m.con n.con = some m.con → Hid (∃ q, InvU gs ((conGs (gs.take j)).flatten ++ (conL gl).take (k + 1)) l q) := fun h => hide (by
                  rw [hTk.out, ← List.append_assoc]
                  exact invU_keep hI.out hfi h)
                have hOver : mergeN m.con n.con = some n.con → Hid (∃ q, InvU gs ((conGs (gs.take j)).flatten ++ (conL gl).take (k + 1)) (putK NodeE.id l n) q) := fun h => hide (by
                  rw [hTk.out, ← List.append_assoc]
                  exact invU_over hI.out Hgm.out Hnm.out hfi h)
                have hFail : mergeN m.con n.con = none → Hid (unionC (conGs gs) = ([], 9)) := fun h => hide (by
                  obtain ⟨rest, hr⟩ := hSp.out
                  refine unionC_none hv.out ?_
                  rw [hr]
                  exact invU_fail hI.out hfi h)
                have HS : ∀ u [Later w u], Calls Tryz.prog 67 #[.agg #[.int .i64 m.iDMachine, .int .i64 m.iDSerial, .int .i64 m.kind, .int .i64 m.clas, .slice m.A m.fields.length m.c], .agg #[.int .i64 n.iDMachine, .int .i64 n.iDSerial, .int .i64 n.kind, .int .i64 n.clas, .slice n.A n.fields.length n.c]] u fun r w' => r = .returned (.bool (decide (m.con = n.con))) ∧ Below u.heap.size u w' := fun u i => sameNodeS_any _ _ _ _ _ _ _ _ _ _ _ _ _ _ u (FM u) (FN u) (by omega) (by omega)
                clear HL hI hfi hgm hmm gm FM FN hSp
                cases k1 : (m.kind == 3) <;> cases k2 : (n.kind == 3)
                · have hiff : Hid (m.con.kind = 3 ↔ n.con.kind = 3) := hide ⟨fun h => absurd h (kf k1), fun h => absurd h (kf k2)⟩
                  cases hsm : decide (m.con = n.con) <;> simp only [hsm] at HS
                  · have hF := hFail (merge_diff hiff.out (of_decide_eq_false hsm))
                    clear hKeep hOver hFail hiff hsm
                    go_upto_region 15 with fail
                    refine wp_name ?_
                    intro w5 hw5
                    obtain ⟨BO, l5⟩ := box1 hw5
                    clear hw5
                    have l55 : Later w5 w5 := Later.refl
                    have lr5 : Later wr w5 := by infer_instance
                    have hR5 := blk_below hR lr5.below
                    have hG5 := blk_below hG lr5.below
                    have hbx5 : Below w.heap.size w w5 := hbr.trans (lr5.below.mono hbr.size)
                    have lw5 := later hbx5
                    go_upto_region 23 with (go_at_call 67; refine (HS _).mono ?_; rintro r w6 ⟨rfl, hb6⟩; have l6 := later hb6)
                    have hb56 : Below w5.heap.size w5 w6 := below_of
                    have hRx := blk_below hR5 hb56
                    have hbx : Below w.heap.size w w6 := hbx5.trans (hb56.mono hbx5.size)
                    have BR := boxed hRx
                    have l66 : Later w6 w6 := Later.refl
                    go_wp2_with fail
                    have rb := blk_cell (blk_set hRx 0 (.slice none 0 0)) 0
                    simp at rb
                    refine bodyPost_ret (v := .tuple #[.agg #[.slice none 0 0], .int .i64 9]) ?_ rfl ?_
                    · simp [results, Tryz.results37, go_sem, rb]
                    · exact unionS_bad (e := 9) hF rfl (hbx.setCell (p := ⟨w.heap.size, 0, none⟩) (by simp) _)
                  · have hI2 := hKeep (merge_same hiff.out (of_decide_eq_true hsm))
                    clear hKeep hOver hFail hiff hsm
                    go_upto_region 15 with fail
                    refine wp_name ?_
                    intro w5 hw5
                    obtain ⟨BO, l5⟩ := box1 hw5
                    clear hw5
                    have l55 : Later w5 w5 := Later.refl
                    have lr5 : Later wr w5 := by infer_instance
                    have hR5 := blk_below hR lr5.below
                    have hG5 := blk_below hG lr5.below
                    have hbx5 : Below w.heap.size w w5 := hbr.trans (lr5.below.mono hbr.size)
                    have lw5 := later hbx5
                    go_upto_region 24 with (go_at_call 67; refine (HS _).mono ?_; rintro r w6 ⟨rfl, hb6⟩; have l6 := later hb6)
                    go_wp2_with fail
                    go_roundw
                    case rel =>
                      have hb56 : Below w5.heap.size w5 w6 := below_of
                      exact ⟨k + 1, l, by omega, by go_num, hI2, hM4.later _, blk_below hR5 hb56, blk_below hG5 hb56, hbx5.trans (hb56.mono hbx5.size)⟩
                    case measure => simp [intOf]; omega
                · have hiff : Hid (¬ (m.con.kind = 3 ↔ n.con.kind = 3)) := hide fun h => absurd (h.2 (kt k2)) (kf k1)
                  cases k3 : (m.clas != n.clas)
                  · have hI2 := hKeep (merge_keep hiff.out (nf k3) (kf k1))
                    clear hKeep hOver hFail hiff HS
                    go_upto_region 15 with fail
                    refine wp_name ?_
                    intro w5 hw5
                    obtain ⟨BO, l5⟩ := box1 hw5
                    clear hw5
                    have l55 : Later w5 w5 := Later.refl
                    have lr5 : Later wr w5 := by infer_instance
                    have hR5 := blk_below hR lr5.below
                    have hG5 := blk_below hG lr5.below
                    have hbx5 : Below w.heap.size w w5 := hbr.trans (lr5.below.mono hbr.size)
                    have lw5 := later hbx5
                    go_wp2_with fail
                    go_roundw
                    case rel => exact ⟨k + 1, l, by omega, by go_num, hI2, hM4.later _, hR5, hG5, hbx5⟩
                    case measure => simp [intOf]; omega
                  · have hF := hFail (merge_clas hiff.out (nt k3))
                    clear hKeep hOver hFail hiff HS
                    go_upto_region 15 with fail
                    refine wp_name ?_
                    intro w5 hw5
                    obtain ⟨BO, l5⟩ := box1 hw5
                    clear hw5
                    have l55 : Later w5 w5 := Later.refl
                    have lr5 : Later wr w5 := by infer_instance
                    have hR5 := blk_below hR lr5.below
                    have hG5 := blk_below hG lr5.below
                    have hbx5 : Below w.heap.size w w5 := hbr.trans (lr5.below.mono hbr.size)
                    have lw5 := later hbx5
                    have hRx := hR5
                    have hbx := hbx5
                    have BR := boxed hRx
                    go_wp2_with fail
                    have rb := blk_cell (blk_set hRx 0 (.slice none 0 0)) 0
                    simp at rb
                    refine bodyPost_ret (v := .tuple #[.agg #[.slice none 0 0], .int .i64 9]) ?_ rfl ?_
                    · simp [results, Tryz.results37, go_sem, rb]
                    · exact unionS_bad (e := 9) hF rfl (hbx.setCell (p := ⟨w.heap.size, 0, none⟩) (by simp) _)
                · have hiff : Hid (¬ (m.con.kind = 3 ↔ n.con.kind = 3)) := hide fun h => absurd (h.1 (kt k1)) (kf k2)
                  cases k3 : (m.clas != n.clas)
                  · have hI2 := hOver (merge_over hiff.out (nf k3) (kt k1))
                    clear hKeep hOver hFail hiff HS
                    obtain ⟨O, hU1, hU2, hU3, hU4⟩ := run_putL (fv := NodeE.v) (kf := NodeE.id) keyI Tryz.underlying138 hM4 n
                    have hU1' : ∀ u [Later w4 u], (Instr.mapUpdate 138 (.map (some gM)) (.agg #[.int .i64 n.iDMachine, .int .i64 n.iDSerial]) (.agg #[.int .i64 n.iDMachine, .int .i64 n.iDSerial, .int .i64 n.kind, .int .i64 n.clas, .slice n.A n.fields.length n.c])).run Tryz.prog u = .ok () (putAt u gM O) := fun u i => hU1 u
                    have HU2 := hide hU2
                    clear hU1 hU2
                    go_upto_region 15 with fail
                    refine wp_name ?_
                    intro w5 hw5
                    obtain ⟨BO, l5⟩ := box1 hw5
                    clear hw5
                    have l55 : Later w5 w5 := Later.refl
                    have lr5 : Later wr w5 := by infer_instance
                    have hR5 := blk_below hR lr5.below
                    have hG5 := blk_below hG lr5.below
                    have hbx5 : Below w.heap.size w w5 := hbr.trans (lr5.below.mono hbr.size)
                    have lw5 := later hbx5
                    go_wp2_with fail
                    go_roundw
                    case rel => exact ⟨k + 1, _, by omega, by go_num, hI2, HU2.out _, (putAt_heap (by omega)).trans hR5, (putAt_heap hMB.symm).trans hG5, putAt_below hbx5 hMw⟩
                    case measure => simp [intOf]; omega
                  · have hF := hFail (merge_clas hiff.out (nt k3))
                    clear hKeep hOver hFail hiff HS
                    go_upto_region 15 with fail
                    refine wp_name ?_
                    intro w5 hw5
                    obtain ⟨BO, l5⟩ := box1 hw5
                    clear hw5
                    have l55 : Later w5 w5 := Later.refl
                    have lr5 : Later wr w5 := by infer_instance
                    have hR5 := blk_below hR lr5.below
                    have hG5 := blk_below hG lr5.below
                    have hbx5 : Below w.heap.size w w5 := hbr.trans (lr5.below.mono hbr.size)
                    have lw5 := later hbx5
                    have hRx := hR5
                    have hbx := hbx5
                    have BR := boxed hRx
                    go_wp2_with fail
                    have rb := blk_cell (blk_set hRx 0 (.slice none 0 0)) 0
                    simp at rb
                    refine bodyPost_ret (v := .tuple #[.agg #[.slice none 0 0], .int .i64 9]) ?_ rfl ?_
                    · simp [results, Tryz.results37, go_sem, rb]
                    · exact unionS_bad (e := 9) hF rfl (hbx.setCell (p := ⟨w.heap.size, 0, none⟩) (by simp) _)
                · have hiff : Hid (m.con.kind = 3 ↔ n.con.kind = 3) := hide ⟨fun _ => kt k2, fun _ => kt k1⟩
                  cases hsm : decide (m.con = n.con) <;> simp only [hsm] at HS
                  · have hF := hFail (merge_diff hiff.out (of_decide_eq_false hsm))
                    clear hKeep hOver hFail hiff hsm
                    go_upto_region 15 with fail
                    refine wp_name ?_
                    intro w5 hw5
                    obtain ⟨BO, l5⟩ := box1 hw5
                    clear hw5
                    have l55 : Later w5 w5 := Later.refl
                    have lr5 : Later wr w5 := by infer_instance
                    have hR5 := blk_below hR lr5.below
                    have hG5 := blk_below hG lr5.below
                    have hbx5 : Below w.heap.size w w5 := hbr.trans (lr5.below.mono hbr.size)
                    have lw5 := later hbx5
                    go_upto_region 23 with (go_at_call 67; refine (HS _).mono ?_; rintro r w6 ⟨rfl, hb6⟩; have l6 := later hb6)
                    have hb56 : Below w5.heap.size w5 w6 := below_of
                    have hRx := blk_below hR5 hb56
                    have hbx : Below w.heap.size w w6 := hbx5.trans (hb56.mono hbx5.size)
                    have BR := boxed hRx
                    have l66 : Later w6 w6 := Later.refl
                    go_wp2_with fail
                    have rb := blk_cell (blk_set hRx 0 (.slice none 0 0)) 0
                    simp at rb
                    refine bodyPost_ret (v := .tuple #[.agg #[.slice none 0 0], .int .i64 9]) ?_ rfl ?_
                    · simp [results, Tryz.results37, go_sem, rb]
                    · exact unionS_bad (e := 9) hF rfl (hbx.setCell (p := ⟨w.heap.size, 0, none⟩) (by simp) _)
                  · have hI2 := hKeep (merge_same hiff.out (of_decide_eq_true hsm))
                    clear hKeep hOver hFail hiff hsm
                    go_upto_region 15 with fail
                    refine wp_name ?_
                    intro w5 hw5
                    obtain ⟨BO, l5⟩ := box1 hw5
                    clear hw5
                    have l55 : Later w5 w5 := Later.refl
                    have lr5 : Later wr w5 := by infer_instance
                    have hR5 := blk_below hR lr5.below
                    have hG5 := blk_below hG lr5.below
                    have hbx5 : Below w.heap.size w w5 := hbr.trans (lr5.below.mono hbr.size)
                    have lw5 := later hbx5
                    go_upto_region 24 with (go_at_call 67; refine (HS _).mono ?_; rintro r w6 ⟨rfl, hb6⟩; have l6 := later hb6)
                    go_wp2_with fail
                    go_roundw
                    case rel =>
                      have hb56 : Below w5.heap.size w5 w6 := below_of
                      exact ⟨k + 1, l, by omega, by go_num, hI2, hM4.later _, blk_below hR5 hb56, blk_below hG5 hb56, hbx5.trans (hb56.mono hbx5.size)⟩
                    case measure => simp [intOf]; omega
            · have hk' : k = gl.length := by omega
              subst hk'
              have hI2 : Hid (∃ q, InvU gs (conGs (gs.take (j + 1))).flatten l q) := hide (by
                rw [conGs_take Hg.out]
                have h := hI.out
                have e : (conL gl).take gl.length = conL gl := List.take_of_length_le (by unfold conL; rw [List.length_map]; exact Nat.le_refl _)
                rw [e] at h
                exact h)
              have hjs := Hlt.out
              go_wp2_with fail
              go_roundw
              case rel => exact ⟨j + 1, l, by omega, by go_num, hI2, hM, hR, hbr⟩
              case measure => simp [intOf]; omega
        · have hk' : j = gs.length := by omega
          subst hk'
          rw [List.take_length] at hI
          obtain ⟨q, hq⟩ := hI.out
          have hU := hide (unionC_some hv.out hq.p)
          have hRel := hide hq.r
          have hln : l0.length ≤ 10000 := Nat.le_trans hq.n ht
          have hlm := hide hq.m
          have hnd := hide hM.nodup
          clear hI hq hv
          go_upto_region 27 with fail
          refine wp_name ?_
          intro w2 hw2
          have hO2 : w2.heap[wr.heap.size]? = some (.cells #[.slice none 0 0] 36 (0, 0)) := (by rw [← hw2]; simp only [heap_alloc_if, World.size_alloc]; repeat (first | rw [if_pos trivial] | rw [if_neg (by omega)] | rw [if_pos (by omega)]); try rfl)
          have hb2 : Below wr.heap.size wr w2 := by rw [← hw2]; exact (by repeat (first | with_reducible exact Below.refl _ _ | (with_reducible refine Below.drew ?_) | (with_reducible refine below_drewN ?_ _) | (with_reducible refine Below.alloc ?_ ?_ _; rotate_left; (first | omega | (simp <;> omega))) | (with_reducible refine Below.setCell ?_ ?_ _; rotate_left; (first | omega | (simp <;> omega)))))
          clear hw2
          have hR2 := blk_below hR hb2
          have hM2 := hM.below hb2
          have hbw2 : Below w.heap.size w w2 := hbr.trans (hb2.mono hbr.size)
          obtain ⟨gO, hgO⟩ : ∃ g, g = wr.heap.size := ⟨_, rfl⟩
          rw [← hgO] at hO2 ⊢
          have hOR : gO ≠ w.heap.size := by have := blk_lt hR; omega
          have hOM : gO ≠ gM := by have := hM.lt; omega
          have hOw : w.heap.size ≤ gO := by have := hbr.size; omega
          clear hM hR hbr lr lrr hgO hb2 hlt
          have l22 : Later w2 w2 := Later.refl
          go_wp2_with (at_range; refine wpList_rangeL rfl _ _ rfl Tryz.underlying138 (by rfl) hM2 ?_; intro w3 hrg0 hb3 hz3)
          go_frame
          have hR3 := blk_below hR2 hb3
          have hO3 := blk_below hO2 hb3
          have hbw3 : Below w.heap.size w w3 := hbw2.trans (hb3.mono hbw2.size)
          obtain ⟨rI, hrI⟩ : ∃ r, r = w2.heap.size := ⟨_, rfl⟩
          rw [← hrI] at hrg0 ⊢
          have hIO : rI ≠ gO := by have := blk_lt hO2; omega
          have hIR : rI ≠ w.heap.size := by have := hbw2.size; have := blk_lt hR2; omega
          have hIw : w.heap.size ≤ rI := by have := hbw2.size; omega
          clear hR2 hO2 hM2 hbw2 hb3 hz3 hrI l22
          go_loopw [15] (fun _ wr => ∃ (idxs : List Nat) (o : List NodeE) (OA : Option Addr) (OC : Nat), RangeL IDE.vv NodeE.v NodeE.id wr gM rI l0 idxs ∧ Hid (conL o = (pickL l0 idxs).map NodeE.con) ∧ wr.heap[w.heap.size]? = some (.cells #[.slice none 0 0] 36 (0, 0)) ∧ wr.heap[gO]? = some (.cells #[.slice OA o.length OC] 36 (0, 0)) ∧ OwnG w.heap.size wr OA OC o ∧ Below w.heap.size w wr) (fun _ wr => l0.length - (wr.iterSeen rI).size)
          case atStart => exact ⟨[], [], none, 0, hrg0, hide rfl, hR3, hO3, OwnG.nil, hbw3⟩
          case round =>
            clear hrg0 hR3 hO3 hbw3
            obtain ⟨idxs, o, OA, OC, hrg, ho, hR, hO, hown, hbr⟩ := hrel
            have hol : o.length ≤ 10000 := by
              have h1 : o.length = (pickL l0 idxs).length := by have := congrArg List.length ho.out; unfold conL at this; rw [List.length_map, List.length_map] at this; exact this
              have h2 := pick_len (l := l0) (idxs := idxs)
              have h3 := hrg.len
              omega
            go_wp2_with (at_next; refine wpList_nextL rfl _ rfl (by rfl) hrg ?_ ?_)
            · intro hall
              have hperm := hide (pick_all hrg.facts.1 hrg.facts.2 hall)
              clear hall
              have BO := boxed hO
              have lrr : Later wr wr := Later.refl
              have HS : ∀ u [Later wr u], Calls Tryz.prog 68 #[.slice OA o.length OC, .func (.func 69) #[] #[]] u fun e w' => e = .returned (.tuple #[]) ∧ ∃ l', l'.Perm o ∧ l'.Pairwise (fun x y => Go.Proofs.ltOf cmpV y x = false) ∧ Own NodeE.cells 5 41 w.heap.size w' (.slice OA o.length OC) l' ∧ Below w.heap.size u w' ∧ u.grownBy w' (Value.slice OA o.length OC).ownBlock := fun u i => sortNodes OA OC o w.heap.size u (hown.s.below i.below) (by omega) (Nat.le_trans hbr.size i.below.size)
              go_upto_region 32 with (go_at_call 68; refine (HS _).mono ?_; rintro r w4 ⟨rfl, o', hp, hs, how4, hb4, hg4⟩)
              have hO4 := (hg4.block gO (blk_lt hO) (fun e => own_off hown.s hO (by decide) e.symm)).trans hO
              have hRx := (hg4.block w.heap.size (blk_lt hR) (fun e => own_off hown.s hR (by decide) e.symm)).trans hR
              have hbx : Below w.heap.size w w4 := hbr.trans hb4
              have hog := hown.sorted hg4 how4 hp
              have hfin := hide (union_done hRel.out hnd.out hperm.out ho.out hp hs)
              have hlen := hide hp.length_eq
              clear hg4 how4 hp hs hb4 HS hown BO hO hR hbr hrg lrr
              have BO := boxed hO4
              have BR := boxed hRx
              have l44 : Later w4 w4 := Later.refl
              go_wp2_with fail
              have rb := blk_cell (blk_set hRx 0 (.slice OA o.length OC)) 0
              simp at rb
              refine bodyPost_ret (v := .tuple #[.agg #[.slice OA o.length OC], .int .i64 0]) ?_ rfl ?_
              · simp [results, Tryz.results37, go_sem, rb]
              · exact ⟨o', OA, OC, hide (by rw [hU.out, hfin.out]), by rw [hU.out, hlen.out]; rfl, hog.set hRx 0 _, hbx.setCell (p := ⟨w.heap.size, 0, none⟩) (by simp) _⟩
            · intro i n w2 hx hi hrg2 hen hgr2 hsz2 hb2
              have hen' := hen.out
              obtain ⟨gn, hgn, hmn⟩ := hlm.out n (List.mem_of_getElem? hx)
              have hnfl0 : n.fields.length ≤ 1000000 := hf gn hgn n hmn
              have hFw := (H.n gn hgn).f n hmn
              have hpk := hide (pick_snoc (idxs := idxs) hx)
              have hiter := hrg.iter
              have hO2 := (hgr2.block gO (blk_lt hO) (fun e => hIO (by injection e with e; exact e.symm))).trans hO
              have hR2 := (hgr2.block w.heap.size (blk_lt hR) (fun e => hIR (by injection e with e; exact e.symm))).trans hR
              have hbw2 : Below w.heap.size w w2 := hbr.trans (hb2 _ hIw)
              have how2 := hown.walked hgr2 hiter
              have hms := hide hrg.seen
              clear hgn hmn gn hx hi hen hgr2 hsz2 hb2 hO hR hbr hown hrg hiter
              have l22 : Later w2 w2 := Later.refl
              go_upto_region 30 with fail
              refine wp_name ?_
              intro w3 hw3
              obtain ⟨nB, hnB⟩ : ∃ g, g = w2.heap.size := ⟨_, rfl⟩
              have hN3 : w3.heap[nB]? = some (.cells n.arr 41 (0, 0)) := by rw [hnB]; exact (by rw [← hw3]; simp only [heap_alloc_if, World.size_alloc]; repeat (first | rw [if_pos trivial] | rw [if_neg (by omega)] | rw [if_pos (by omega)]); try rfl)
              have hb3 : Below w2.heap.size w2 w3 := by rw [← hw3]; exact (by repeat (first | with_reducible exact Below.refl _ _ | (with_reducible refine Below.drew ?_) | (with_reducible refine below_drewN ?_ _) | (with_reducible refine Below.alloc ?_ ?_ _; rotate_left; (first | omega | (simp <;> omega))) | (with_reducible refine Below.setCell ?_ ?_ _; rotate_left; (first | omega | (simp <;> omega)))))
              clear hw3
              obtain ⟨row, hrowe⟩ : ∃ r, r = (Value.slice OA o.length OC).ownBlock := ⟨_, rfl⟩
              have hrowN : ∀ k, row = some k → k < nB := fun k hk => by rw [hnB]; exact (World.ownsRow.lt how2.s k (hrowe ▸ hk)).2
              have hBn : nB < w3.heap.size := by rw [hnB]; exact blk_lt (hnB ▸ hN3)
              rw [← hnB]
              have hR3 := blk_below hR2 hb3
              have hO3 := blk_below hO2 hb3
              have hrg3 := hrg2.below hb3
              have how3 := how2.below hb3
              have hbw3 : Below w.heap.size w w3 := hbw2.trans (hb3.mono hbw2.size)
              have hNO : nB ≠ gO := by have := blk_lt hO2; omega
              have hNw : w.heap.size ≤ nB := by have := hbw2.size; omega
              clear hR2 hO2 hrg2 how2 hbw2 hb3 hnB l22 hen'
              have l33 : Later w3 w3 := Later.refl
              have lw3 : Later w w3 := ⟨hbw3⟩
              have BN := boxed hN3
              have ho2 := fun (A' : Option Addr) (c' : Nat) => hide (show conL (o ++ [nodeAt n A' c']) = (pickL l0 (idxs ++ [i])).map NodeE.con by rw [conL_snoc, hpk.out, ho.out]; simp)
              clear ho
              have hrow : ∀ k, row = some k → k < w3.heap.size := fun k hk => Nat.lt_trans (hrowN k hk) hBn
              have hown := how3.s
              have hflds := how3.f
              have hcs := how3.c
              have hnfl : n.fields.length ≤ 1000000000 := by omega
              have hrO : row ≠ some gO := by rw [hrowe]; exact own_off how3.s hO3 (by decide)
              have hrR : row ≠ some w.heap.size := by rw [hrowe]; exact own_off how3.s hR3 (by decide)
              have hrM : row ≠ some gM := by rw [hrowe]; exact own_map how3.s hrg3.mapL
              have hrI : row ≠ some rI := by rw [hrowe]; exact own_iter how3.s hrg3.iter
              have hrN : row ≠ some nB := fun e => absurd (hrowN _ e) (by omega)
              have hwd : w3.heap.size = w3.drew.heap.size := rfl
              have hOld : ∀ u, w3.drew.grownBy u row → ∀ (g : Nat) (ob : Obj), w3.heap[g]? = some ob → row ≠ some g → u.heap[g]? = some ob := fun u hu g ob hg hne => (hu.block g (blk_lt hg) (fun e => hne e.symm)).trans hg
              have HOb : ∀ u, w3.drew.grownBy u row → u.heap[gO]? = some (.cells #[.slice OA o.length OC] 36 (0, 0)) := fun u hu => hOld u hu gO _ hO3 hrO
              have HOc : ∀ u, w3.drew.grownBy u row → u.cell? ⟨gO, 0, none⟩ = some (.slice OA o.length OC) := fun u hu => by have := blk_cell (HOb u hu) 0; simpa using this
              have HNc : ∀ u, w3.drew.grownBy u row → u.cell? ⟨nB, 0, none⟩ = some (.int .i64 n.iDMachine) ∧ u.cell? ⟨nB, 1, none⟩ = some (.int .i64 n.iDSerial) ∧ u.cell? ⟨nB, 2, none⟩ = some (.int .i64 n.kind) ∧ u.cell? ⟨nB, 3, none⟩ = some (.int .i64 n.clas) ∧ u.cell? ⟨nB, 4, none⟩ = some (.slice n.A n.fields.length n.c) := fun u hu => by
                have hb := hOld u hu nB _ hN3 hrN
                have k0 := blk_cell hb 0
                have k1 := blk_cell hb 1
                have k2 := blk_cell hb 2
                have k3 := blk_cell hb 3
                have k4 := blk_cell hb 4
                simp at k0 k1 k2 k3 k4
                exact ⟨k0, k1, k2, k3, k4⟩
              have hBelowU : ∀ u, w3.drew.grownBy u row → Below w.heap.size w u := fun u hu => by
                have hd : Below w.heap.size w w3.drew := hbw3.trans ((Below.refl _ _).drew.mono hbw3.size)
                exact hd.grown hu hbw3.size fun k hk => (World.ownsRow.lt how3.s k (hrowe ▸ hk)).1
              have HFn : ∀ u, w3.drew.grownBy u row → SlAt ValE.cells 4 u n.A n.fields := fun u hu => hFw.below (hBelowU u hu)
              have hzz := hbw3.size
              have hRg : ∀ u, w3.drew.grownBy u row → ∀ v : Value, RangeL IDE.vv NodeE.v NodeE.id (u.setCell ⟨gO, 0, none⟩ v) gM rI l0 (idxs ++ [i]) := fun u hu v => by
                refine hrg3.of_heap ?_ ?_
                · rw [blk_far (p := ⟨gO, 0, none⟩) (show gM ≠ gO from hOM.symm)]
                  exact hu.block gM hrg3.lt.1 (fun e => hrM e.symm)
                · rw [blk_far (p := ⟨gO, 0, none⟩) (show rI ≠ gO from hIO)]
                  exact hu.block rI hrg3.lt.2.1 (fun e => hrI e.symm)
              have hlen := hide hrg3.len
              clear how3 hrg3
              refine wp_region_invA (last := 7) (ap := 5) (row := row) (R := specRA [.is (.pointer (some ⟨gO, 0, none⟩)), .is (.slice OA o.length OC), .is n.v, SpecA.own hrow ValE.cells 4 100 (fun A c => .agg #[.int .i64 n.iDMachine, .int .i64 n.iDSerial, .int .i64 n.kind, .int .i64 n.clas, .slice A n.fields.length c]) n.fields, SpecA.nodeBlk hrow n, .any, .is (.pointer (some ⟨gO, 0, none⟩))]) (J := appJ w.heap.size o n OA OC) (by kernel_rfl) (specRA_mono (B := w3.heap.size) (row := row) _) (appJ_mono _ _ _ _ _) (by kernel_rfl) (by kernel_rfl) (by kernel_rfl) (appJ_start hown hflds (Below.refl _ _).drew) (steps_all ?_) ?_ ?_ (fun h => absurd h (by decide))
              · refine ⟨?_, ?_, ?_, ?_, ?_, ?_, ?_, ?_, trivial⟩
                · intro hne hne2 a u lu hN hO K hK
                  (try simp only [Nat.zero_add, Nat.reduceAdd] at hN hK)
                  have e0 : a.tmps.getD 13 undef = .pointer (some ⟨gO, 0, none⟩) := (hO 13 (out_get (by kernel_rfl))).trans rfl
                  simp only [Array.getD_eq_getD_getElem?] at e0
                  rw [if_pos (by rfl)]
                  go_simp
                  exact hK _ _ Later.refl rfl
                · intro hne hne2 a u lu hN hO K hK
                  (try simp only [Nat.zero_add, Nat.reduceAdd] at hN hK)
                  have e0 : a.tmps.getD 90 undef = .pointer (some ⟨gO, 0, none⟩) := hN 0 (needs_get (by kernel_rfl))
                  simp only [Array.getD_eq_getD_getElem?] at e0
                  have cO := HOc u lu
                  rw [if_pos (by rfl)]
                  go_simp
                  exact hK _ _ Later.refl rfl
                · intro hne hne2 a u lu hN hO K hK
                  (try simp only [Nat.zero_add, Nat.reduceAdd] at hN hK)
                  have e0 : a.tmps.getD 15 undef = .pointer (some ⟨nB, 0, none⟩) := (hO 15 (out_get (by kernel_rfl))).trans rfl
                  simp only [Array.getD_eq_getD_getElem?] at e0
                  obtain ⟨c0, c1, c2, c3, c4⟩ := HNc u lu
                  rw [if_pos (by rfl)]
                  go_simp
                  exact hK _ _ Later.refl rfl
                · intro hne hne2 a u lu hN hO K hK
                  (try simp only [Nat.zero_add, Nat.reduceAdd] at hN hK)
                  have e0 : a.tmps.getD 92 undef = n.v := hN 2 (needs_get (by kernel_rfl))
                  simp only [Array.getD_eq_getD_getElem?] at e0
                  rw [if_pos (by rfl)]
                  go_simp
                  refine (copyNode_any n u (HFn u lu) hnfl).mono ?_
                  rintro r u' ⟨A, c, rfl, hc1, hc2, hco, hb⟩
                  exact hK _ _ ⟨hb⟩ ⟨A, c, rfl, hc1, hc2, hco.mono lu.size⟩
                · intro hne hne2 a u lu hN hO K hK
                  (try simp only [Nat.zero_add, Nat.reduceAdd] at hN hK)
                  obtain ⟨A, c, e0, hc1, hc2, hco⟩ : ∃ A c, a.tmps.getD 93 undef = .agg #[.int .i64 n.iDMachine, .int .i64 n.iDSerial, .int .i64 n.kind, .int .i64 n.clas, .slice A n.fields.length c] ∧ n.fields.length ≤ c ∧ c ≤ maxLen ∧ Own ValE.cells 4 100 w3.heap.size u (.slice A n.fields.length c) n.fields := hN 3 (needs_get (by kernel_rfl))
                  simp only [Array.getD_eq_getD_getElem?] at e0
                  rw [if_pos (by rfl)]
                  go_simp
                  exact hK _ _ inferInstance ⟨A, c, u.heap.size, lu.size, rfl, heap_alloc_new _ _, hc1, hc2, hco.below ((Below.refl _ _).alloc (Nat.le_refl _) _)⟩
                · intro hne hne2 a u lu hN hO K hK
                  (try simp only [Nat.zero_add, Nat.reduceAdd] at hN hK)
                  exact absurd rfl hne2
                · intro hne hne2 a u lu hN hO K hK
                  (try simp only [Nat.zero_add, Nat.reduceAdd] at hN hK)
                  have e0 : a.tmps.getD 13 undef = .pointer (some ⟨gO, 0, none⟩) := (hO 13 (out_get (by kernel_rfl))).trans rfl
                  simp only [Array.getD_eq_getD_getElem?] at e0
                  rw [if_pos (by rfl)]
                  go_simp
                  exact hK _ _ Later.refl rfl
                · intro hne hne2 a u lu hN hO K hK
                  (try simp only [Nat.zero_add, Nat.reduceAdd] at hN hK)
                  exact absurd rfl hne
              · intro op hop
                simp only [List.getElem?_toArray, List.getElem?_cons_succ, List.getElem?_cons_zero] at hop
                injection hop with hop
                subst hop
                intro a u lu hst hN hO K hK
                have e1 : a.tmps.getD 91 undef = .slice OA o.length OC := hN 1 (needs_get (by kernel_rfl))
                obtain ⟨A, c, g, hgB, e4, hg, hc1, hc2, hco⟩ : ∃ A c g, w3.heap.size ≤ g ∧ a.tmps.getD 94 undef = .slice (some ⟨g, 0, none⟩) 1 1 ∧ u.heap[g]? = some (.cells (nodeArr n A c) 41 (0, 0)) ∧ n.fields.length ≤ c ∧ c ≤ maxLen ∧ Own ValE.cells 4 100 w3.heap.size u (.slice A n.fields.length c) n.fields := hN 4 (needs_get (by kernel_rfl))
                obtain ⟨hou, hfu⟩ := hst
                refine step_app2 (P := Tryz.prog) rfl (.tmp 91) (.tmp 94) (by rfl) NodeE.enc nodeT _ _ [nodeAt n A c] o (.slice OA o.length OC) e1 e4 (m := 1) (n := o.length + 1) rfl rfl hou (blk_slAt NodeE.enc (fr := (0, 0)) (e := 41) hg [nodeAt n A c] rfl) (by omega) (by unfold maxLen; omega) (Nat.le_trans hbw3.size lu.size) ?_
                intro A' c' u' ho' hm' hst'
                exact hK _ u' (by rw [hrowe]; exact hst'.1) trivial (appJ_done hou hfu hco hc1 hc2 (Nat.le_trans hbw3.size (Nat.le_refl _)) ho' hst')
              intro op hop a u hI K hK
              simp only [List.getElem?_toArray, List.getElem?_cons_succ, List.getElem?_cons_zero] at hop
              injection hop with hop
              subst hop
              have e6 : a.tmps.getD 96 undef = .pointer (some ⟨gO, 0, none⟩) := hI.got 6 (by decide) rfl
              obtain ⟨A, c, A', c', e5, ho5, hf5, hc1, hc2⟩ : ∃ A c A' c', a.tmps.getD 95 undef = .slice A' (o.length + 1) c' ∧ Own NodeE.cells 5 41 w.heap.size u (.slice A' (o.length + 1) c') (o ++ [nodeAt n A c]) ∧ (∀ m ∈ o ++ [nodeAt n A c], Own ValE.cells 4 100 w.heap.size u (.slice m.A m.fields.length m.c) m.fields) ∧ n.fields.length ≤ c ∧ c ≤ maxLen := hI.st
              have hgu := hI.grown
              have hdf : a.defers = [] := hI.defers.trans rfl
              have luu : Later u u := Later.refl
              have hOu := HOb u hgu
              have XO := boxed hOu
              simp only [Array.getD_eq_getD_getElem?] at e5 e6
              rw [if_pos (by rfl)]
              go_simp
              refine hK _ _ ?_
              have hTm := tmps_of (L := [90, 91, 92, 93, 94, 95, 96]) hI.size (fun t ht => hI.out t (fun hm => ht hm))
              clear hK K e5 e6 hI
              obtain ⟨atm, adf⟩ := a
              dsimp only at hTm hdf
              subst hdf
              simp only [List.foldl_cons, List.foldl_nil, List.setIfInBounds_toArray, List.set_cons_succ, List.set_cons_zero] at hTm
              generalize atm.getD 90 undef = v0 at hTm
              generalize atm.getD 91 undef = v1 at hTm
              generalize atm.getD 92 undef = v2 at hTm
              generalize atm.getD 93 undef = v3 at hTm
              generalize atm.getD 94 undef = v4 at hTm
              generalize atm.getD 95 undef = v5 at hTm
              generalize atm.getD 96 undef = v6 at hTm
              subst hTm
              have hR4 := (blk_far (p := ⟨gO, 0, none⟩) hOR.symm (.slice A' (o.length + 1) c')).trans (hOld u hgu w.heap.size _ hR3 hrR)
              have hO4 := blk_set hOu 0 (.slice A' (o.length + 1) c')
              have hrg4 := hRg u hgu (.slice A' (o.length + 1) c')
              have how4 : OwnG w.heap.size (u.setCell ⟨gO, 0, none⟩ (.slice A' (o.length + 1) c')) A' c' (o ++ [nodeAt n A c]) := OwnG.set (c := c') ⟨by simpa using ho5, hf5, fun m hm => by
                rcases List.mem_append.1 hm with hm | hm
                · exact hcs m hm
                · rw [List.mem_singleton] at hm; subst hm; exact ⟨hc1, hc2⟩⟩ hOu 0 _
              have hb4 := (hBelowU u hgu).setCell (p := ⟨gO, 0, none⟩) hOw (.slice A' (o.length + 1) c')
              have hoo := ho2 A c
              simp only [List.setIfInBounds_toArray, List.set_cons_zero] at hO4
              generalize u.setCell ⟨gO, 0, none⟩ (.slice A' (o.length + 1) c') = w4 at hR4 hO4 hrg4 how4 hb4 ⊢
              have hlk : (o ++ [nodeAt n A c]).length = o.length + 1 := by simp
              go_wp2_with fail
              go_roundw
              case rel => exact ⟨idxs ++ [i], o ++ [nodeAt n A c], A', c', hrg4, hoo, hR4, by rw [hlk]; exact hO4, how4, hb4⟩
              case measure =>
                have h1 := hlen.out
                rw [hrg4.seen, hms.out]
                rw [List.length_append, List.length_singleton] at h1 ⊢
                omega
end Go.Proofs.YtpkfenlfgdbkcaaGreatDoor

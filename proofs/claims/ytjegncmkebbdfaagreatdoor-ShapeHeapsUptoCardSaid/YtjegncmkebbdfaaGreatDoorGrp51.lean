/-
  Small texts of this seat, put into one. Conditions stand in each theorem.
-/
import Derived.Test.YtjegncmkebbdfaaGreatDoorGrp50
import Derived.Test.YtjegncmkebbdfaaGreatDoorGrpA
import Derived.Deep.RegionHeld3
import Derived.Test.YtjegncmkebbdfaaGreatDoorGrp32
import Derived.Test.YtjegncmkebbdfaaGreatDoorGrp70
import Derived.Lib.AppendZeros
import Derived.Laws.IdiomCopy
import Derived.Deep.Upon
set_option linter.unusedSimpArgs false
set_option linter.unusedVariables false
namespace Go.Proofs.YtjegncmkebbdfaaGreatDoor
open Go.RowKit
attribute [local simp] heap_drew
/-! ### Spaces -/
def W64.cells (x : Int) : List Value := [.int .u64 x]
theorem W64.enc : Enc W64.cells 1 := ⟨fun _ => rfl, fun x u hu => by simp only [W64.cells, List.mem_cons, List.not_mem_nil, or_false] at hu; subst hu; rfl, by decide⟩
theorem w64T : ElemT Tryz.prog 38 34 1 8 := ElemT.mk' (z := .int .u64 0) Tryz.underlying38 (by kernel_rfl) rfl
/-- A space: its base, its limit and its words. -/
def SpAt (w : World) (g : Nat) (b lim : Int) (v : Value) : Prop := w.heap[g]? = some (.cells #[.int .i64 b, .int .i64 lim, v] 179 (0, 0))
theorem SpAt.below {w w' : World} {g : Nat} {b lim : Int} {v : Value} (h : SpAt w g b lim v) (hb : Below w.heap.size w w') : SpAt w' g b lim v := blk_below h hb
abbrev spP (g : Nat) : Value := .pointer (some ⟨g, 0, none⟩)
structure SpIn (b : Int) (n : Nat) : Prop where
  b0 : 0 ≤ b
  b1 : b ≤ 16777216
  n1 : n ≤ 16777216
set_option maxHeartbeats 2000000 in
theorem top_any {g : Nat} {b lim : Int} {A : Option Addr} {n c : Nat} {w : World} (h : SpAt w g b lim (.slice A n c)) (hn : SpIn b n) : Calls Tryz.prog 121 #[spP g] w fun r w' => r = .returned (.int .i64 (b + n)) ∧ Below w.heap.size w w' := by
  have B := boxed h
  have lww : Later w w := Later.refl
  have hw : IntKind.i64.wrap (b + n) = b + n := by rw [IntKind.wrap_i64]; have := hn.b0; have := hn.b1; have := hn.n1; omega
  clear h hn
  go_enter Tryz.func121, Tryz.ntmps121
  go_upto_region 1 with fail
  (refine wp_region_after (by kernel_rfl) (by kernel_rfl) ?_
   repeat (any_goals (first | go_big_quiet_skip | (go_big_quiet_want; go_big_quiet_op; first | go_big_quiet_on | go_big_quiet_call (fail)) | quiet_step (fail) | (refine wpQuiet_step (fun K hK => ?_); go_simp; split <;> (refine hK _ ?_; clear hK K))))
   all_goals (refine wpQuiet_nil ?_; intro _ hw'; obtain ⟨u', hw''⟩ := hw'; subst hw''; obtain ⟨wd, hbd⟩ := u'; simp only [After.val_mk]))
  have ld := later hbd
  go_wp2_with fail
  go_ret
  exact ⟨rfl, below_of⟩
set_option maxHeartbeats 2000000 in
theorem contains_any {g : Nat} {b lim : Int} {A : Option Addr} {n c : Nat} {w : World} (a : Int) (h : SpAt w g b lim (.slice A n c)) (hn : SpIn b n) : Calls Tryz.prog 133 #[spP g, .int .i64 a] w fun r w' => r = .returned (.bool (decide (b ≤ a ∧ a < b + n))) ∧ Below w.heap.size w w' := by
  have HT : ∀ u [Later w u], Calls Tryz.prog 121 #[spP g] u fun r w' => r = .returned (.int .i64 (b + n)) ∧ Below u.heap.size u w' := fun u i => top_any (h.below i.below) hn
  have B := boxed h
  have lww : Later w w := Later.refl
  by_cases c1 : b ≤ a
  · by_cases c2 : a < b + n
    · rw [decide_eq_true ⟨c1, c2⟩]
      have c3 := decide_eq_true c2
      clear h hn c2
      go_enter Tryz.func133, Tryz.ntmps133
      go_wp2_with (go_at_call 121; refine (HT _).mono ?_; rintro r w1 ⟨rfl, hb1⟩; have l1 := later hb1)
      go_ret
      exact ⟨rfl, below_of⟩
    · rw [decide_eq_false (fun e => c2 e.2)]
      have c3 := decide_eq_false c2
      clear h hn c2
      go_enter Tryz.func133, Tryz.ntmps133
      go_wp2_with (go_at_call 121; refine (HT _).mono ?_; rintro r w1 ⟨rfl, hb1⟩; have l1 := later hb1)
      go_ret
      exact ⟨rfl, below_of⟩
  · rw [decide_eq_false (fun e => c1 e.1)]
    clear h hn
    go_enter Tryz.func133, Tryz.ntmps133
    go_wp2_with fail
    go_ret
    exact ⟨rfl, below_of⟩
/-- A word that the space has. -/
theorem load_any {g : Nat} {b lim : Int} {A : Option Addr} {c : Nat} {w : World} {ws : List Int} (k : Nat) (x : Int) (h : SpAt w g b lim (.slice A ws.length c)) (hn : SpIn b ws.length) (hs : SlAt W64.cells 1 w A ws) (hk : ws[k]? = some x) : Calls Tryz.prog 139 #[spP g, .int .i64 (b + k)] w fun r w' => r = .returned (.tuple #[.int .u64 x, .int .i64 0]) ∧ Below w.heap.size w w' := by
  have hlt := (List.getElem?_eq_some_iff.1 hk).1
  have HC : ∀ u [Later w u], Calls Tryz.prog 133 #[spP g, .int .i64 (b + k)] u fun r w' => r = .returned (.bool true) ∧ Below u.heap.size u w' := fun u i => by
    have := contains_any (b + k) (h.below i.below) hn
    rw [decide_eq_true ⟨by omega, by omega⟩] at this
    exact this
  obtain ⟨gw, o, x', rfl, -, hx', hc⟩ := hs.at_ hlt
  rw [hk] at hx'
  injection hx' with hx'
  subst hx'
  have CX : ∀ u [Later w u], u.cell? ⟨gw, o + k, none⟩ = some (.int .u64 x) := fun u i => by
    have := cell_below (hc 0 _ rfl) i.below
    simpa using this
  have B := boxed h
  have lww : Later w w := Later.refl
  have hki : (k : Int) < (ws.length : Int) := by omega
  have hw : IntKind.i64.wrap (b + k - b) = k := by rw [IntKind.wrap_i64]; have := hn.n1; omega
  have hw2 : IntKind.i64.wrap (k : Int) = k := by rw [IntKind.wrap_i64]; have := hn.n1; omega
  have hbk : b + (k : Int) - b = k := by omega
  clear h hn hs hk hlt hc
  go_enter Tryz.func139, Tryz.ntmps139
  go_upto_region 3 with (go_at_call 133; refine (HC _).mono ?_; rintro r w1 ⟨rfl, hb1⟩; have l1 := later hb1)
  (refine wp_region_after (by kernel_rfl) (by kernel_rfl) ?_
   repeat (any_goals (first | go_big_quiet_skip | (go_big_quiet_want; go_big_quiet_op; first | go_big_quiet_on | go_big_quiet_call (fail)) | quiet_step (fail) | (refine wpQuiet_step (fun K hK => ?_); go_simp; split <;> (refine hK _ ?_; clear hK K))))
   all_goals (refine wpQuiet_nil ?_; intro _ hw'; obtain ⟨u', hw''⟩ := hw'; subst hw''; obtain ⟨wd, hbd⟩ := u'; simp only [After.val_mk]))
  have ld := later hbd
  go_wp2_with fail
  exact bodyPost_ret (results_tmp2 rfl _ _ _) rfl ⟨rfl, below_of⟩
end Go.Proofs.YtjegncmkebbdfaaGreatDoor

namespace Go.Proofs.YtjegncmkebbdfaaGreatDoor
open Go.RowKit
attribute [local simp] heap_drew
/-- The words of a space: a slice of the heap's own; what lies behind its length is zero. -/
structure WsAt (base : Nat) (w : World) (A : Option Addr) (c : Nat) (ws : List Int) : Prop where
  le : ws.length ≤ c
  own : Own W64.cells 1 34 base w (.slice A c c) (ws ++ List.replicate (c - ws.length) 0)
section
variable {base : Nat} {w w' : World} {A : Option Addr} {c : Nat} {ws : List Int}
theorem WsAt.below (h : WsAt base w A c ws) (hb : Below w.heap.size w w') : WsAt base w' A c ws := ⟨h.le, h.own.below hb⟩
theorem slAt_pre {α : Type} {f : α → List Value} {s : Nat} {w : World} {A : Option Addr} {l l2 : List α} (h : SlAt f s w A (l ++ l2)) : SlAt f s w A l := fun hl => by
  obtain ⟨b, off, e, hb, hc⟩ := h (fun e => hl (List.append_eq_nil_iff.1 e).1)
  exact ⟨b, off, e, hb, fun k x hk j u hu => hc k x (by rw [List.getElem?_append_left (List.getElem?_eq_some_iff.1 hk).1]; exact hk) j u hu⟩
theorem WsAt.slAt (h : WsAt base w A c ws) : SlAt W64.cells 1 w A ws := slAt_pre (h.own.at_ W64.enc).2.2
theorem WsAt.isS (h : WsAt base w A c ws) {k : Nat} (hk : k < ws.length) : ∃ g, A = some ⟨g, 0, none⟩ :=
  h.own.isSome fun e => by rw [(List.append_eq_nil_iff.1 e).1] at hk; simp at hk
theorem WsAt.put {g : Nat} (h : WsAt base w (some ⟨g, 0, none⟩) c ws) {k : Nat} (hk : k < ws.length) (x : Int) : WsAt base (w.setCell ⟨g, k, none⟩ (.int .u64 x)) (some ⟨g, 0, none⟩) c (ws.set k x) := by
  refine ⟨by rw [List.length_set]; exact h.le, ?_⟩
  have := h.own.store W64.enc (k := k) (j := 0) (x' := x) (u := .int .u64 x) (by rw [List.getElem?_append_left hk]; exact List.getElem?_eq_getElem hk) (by decide) rfl
  rw [List.length_set, ← List.set_append_left _ _ hk]
  simpa using this
theorem WsAt.cap (h : WsAt base w A c ws) : c ≤ maxLen := by
  rcases h.own.form with ⟨h1, -⟩ | ⟨g, cap, h1, -, -, -, h2⟩
  · injection h1 with h1 h2 h3; subst h2; decide
  · injection h1 with h1 h2 h3; subst h3; exact h2
end
set_option maxHeartbeats 4000000 in
theorem spStore_any {base g gw : Nat} {b lim : Int} {c : Nat} {w : World} {ws : List Int} (k : Nat) (x : Int) (h : SpAt w g b lim (.slice (some ⟨gw, 0, none⟩) ws.length c)) (hn : SpIn b ws.length) (hs : WsAt base w (some ⟨gw, 0, none⟩) c ws) (hk : k < ws.length) :
    Calls Tryz.prog 165 #[spP g, .int .i64 (b + k), .int .u64 x] w fun r w' => r = .returned (.int .i64 0) ∧ ∃ w1, Below w.heap.size w w1 ∧ w' = w1.setCell ⟨gw, k, none⟩ (.int .u64 x) := by
  have HC : ∀ u [Later w u], Calls Tryz.prog 133 #[spP g, .int .i64 (b + k)] u fun r w' => r = .returned (.bool true) ∧ Below u.heap.size u w' := fun u i => by
    have := contains_any (b + k) (h.below i.below) hn
    rw [decide_eq_true ⟨by omega, by omega⟩] at this
    exact this
  have B := boxed h
  have CX : ∀ u [Later w u], (u.cell? ⟨gw, k, none⟩).isSome = true := fun u i => by
    have := (hs.below i.below).own.cell W64.enc (k := k) (j := 0) (by rw [List.getElem?_append_left hk]; exact List.getElem?_eq_getElem hk) rfl
    simp only [Nat.mul_one, Nat.add_zero] at this
    rw [this]; rfl
  have FX : ∀ u [Later w u], u.frozen? ⟨gw, k, none⟩ = false := fun u i => (hs.below i.below).own.free k
  have hne : gw ≠ g := fun e => own_off hs.own h (by decide) (by rw [e]; rfl)
  have hne' : g ≠ gw := fun e => hne e.symm
  have lww : Later w w := Later.refl
  have hki : (k : Int) < (ws.length : Int) := by omega
  have hbk : b + (k : Int) - b = k := by omega
  have hw2 : IntKind.i64.wrap (k : Int) = k := by rw [IntKind.wrap_i64]; have := hn.n1; omega
  clear h hn hs hk
  go_enter Tryz.func165, Tryz.ntmps165
  go_upto_region 3 with (go_at_call 133; refine (HC _).mono ?_; rintro r w1 ⟨rfl, hb1⟩; have l1 := later hb1)
  have lw1 : Later w w1 := ⟨below_of⟩
  have l11 : Later w1 w1 := Later.refl
  obtain ⟨y, hy⟩ := Option.isSome_iff_exists.1 (CX w1)
  have cx : w1.cell? ⟨g, 0, none⟩ = some (.int .i64 b) ∧ w1.cell? ⟨g, 2, none⟩ = some (.slice (some ⟨gw, 0, none⟩) ws.length c) ∧ w1.cell? ⟨gw, k, none⟩ = some y ∧ w1.frozen? ⟨gw, k, none⟩ = false := ⟨((B w1).2 0).1, ((B w1).2 2).1, hy, FX w1⟩
  clear CX FX
  have hbw := lw1.below
  obtain ⟨c0, c1, c2, c3⟩ := cx
  go_region_held3 (fun w' => w'.cell? ⟨g, 0, none⟩ = some (.int .i64 b) ∧ w'.cell? ⟨g, 2, none⟩ = some (.slice (some ⟨gw, 0, none⟩) ws.length c)) (go_keep) (fail)
  go_wp2_with fail
  go_ret
  exact ⟨rfl, w1.drew, hbw.drew, rfl⟩
end Go.Proofs.YtjegncmkebbdfaaGreatDoor

namespace Go.Proofs.YtjegncmkebbdfaaGreatDoor
open Go.RowKit
theorem zeroCells_w64 (n : Nat) : Builtin.zeroCells (Value.int .u64 0).cells n = ((List.replicate n (0 : Int)).flatMap W64.cells).toArray := by
  apply Array.ext'
  show ((Array.range (n * 1)).map fun i => (#[Value.int .u64 0] : Array Value)[i % 1]!).toList = _
  rw [Nat.mul_one, Array.toList_map, Array.toList_range]
  apply List.ext_getElem?
  intro j
  rw [List.getElem?_map]
  rcases Nat.lt_or_ge j n with h | h
  · rw [List.getElem?_range h]
    have := W64.enc.flat_get (List.replicate n (0 : Int)) j 0 0 (by rw [List.getElem?_replicate, if_pos h]) (by decide)
    rw [Nat.mul_one, Nat.add_zero] at this
    rw [show (((List.replicate n (0 : Int)).flatMap W64.cells).toArray.toList) = (List.replicate n (0 : Int)).flatMap W64.cells from rfl, this]
    show some ((#[Value.int .u64 0] : Array Value)[j % 1]!) = _
    rw [Nat.mod_one]
    rfl
  · rw [List.getElem?_eq_none (by rw [List.length_range]; exact h)]
    symm
    show (((List.replicate n (0 : Int)).flatMap W64.cells))[j]? = none
    rw [List.getElem?_eq_none]
    rw [W64.enc.flat_length, List.length_replicate]; omega
section
variable {e : TypeId} {base : Nat} {w w' : World} {A : Option Addr} {c : Nat} {L : List Int}
theorem own_row (L : List Int) (hb : base ≤ w.heap.size) (hm : L.length ≤ maxLen) (w1 : World) (h1 : w1.heap[w.heap.size]? = some (.cells (L.flatMap W64.cells).toArray e (0, 0))) : Own W64.cells 1 e base w1 (.slice (some ⟨w.heap.size, 0, none⟩) L.length L.length) L :=
  ⟨W64.enc.flat_length L, .inr ⟨w.heap.size, L.length, _, rfl, hb, h1, Nat.le_refl _, hm, by rw [List.size_toArray, W64.enc.flat_length], by
    show ((L.flatMap W64.cells).toArray.toList).take (L.length * 1) = _
    rw [Nat.mul_one, List.take_of_length_le]
    show (L.flatMap W64.cells).length ≤ _
    rw [W64.enc.flat_length]; omega⟩⟩
theorem flat_app (a b : List Int) : (a ++ b).flatMap W64.cells = a.flatMap W64.cells ++ b.flatMap W64.cells := List.flatMap_append
theorem run_grow {P : Program} {t tn ty : TypeId} {i : TypeInfo} {kn : IntKind} (ht : P.underlying t = some (.slice e)) (htn : P.underlying tn = some (.int kn)) (hi : P.info? e = some i) (hz : i.zero = some (.int .u64 0)) (hsize : i.size = 1) (hby : i.bytes = 8)
    (hL : L.length = c) (h : Own W64.cells 1 e base w (.slice A c c) L) (k : Nat) (hk : 0 < k) (hs : (c + k) * 8 ≤ 140737488355328) (hb : base ≤ w.heap.size) :
    ∃ c' w', (Builtin.append_ #[t, tn] ty #[.slice A c c, .int .i64 k]).run P w = .ok (.slice (some ⟨w.heap.size, 0, none⟩) (c + k) c') w' ∧ Own W64.cells 1 e base w' (.slice (some ⟨w.heap.size, 0, none⟩) c' c') (L ++ List.replicate (c' - c) 0) ∧ c + k ≤ c' ∧ Below w.heap.size w w' := by
  have hge := grownCap_ge w (c + k) c e
  have hcm : grownCap w (c + k) c e ≤ maxLen := grownCap_le_maxLen w (c + k) c e (by unfold maxLen; omega)
  have hlen : (L ++ List.replicate (grownCap w (c + k) c e - c) 0).length = grownCap w (c + k) c e := by rw [List.length_append, List.length_replicate, hL]; omega
  have fin : ∀ w1 : World, w1 = w.drew.alloc (.cells ((L.flatMap W64.cells).toArray ++ Builtin.zeroCells (Value.int .u64 0).cells k ++ Builtin.zeroCells (Value.int .u64 0).cells (grownCap w (c + k) c e - (c + k))) e) →
      Own W64.cells 1 e base w1 (.slice (some ⟨w.heap.size, 0, none⟩) (grownCap w (c + k) c e) (grownCap w (c + k) c e)) (L ++ List.replicate (grownCap w (c + k) c e - c) 0) ∧ Below w.heap.size w w1 := fun w1 h1 => by
    refine ⟨?_, by rw [h1]; exact ((Below.refl _ w).drew).alloc (Nat.le_refl _) _⟩
    have := own_row (e := e) (base := base) (w := w) (L ++ List.replicate (grownCap w (c + k) c e - c) 0) hb (by rw [hlen]; exact hcm) w1 (by
      rw [h1, show w.heap.size = w.drew.heap.size from rfl, heap_alloc_new]
      congr 2
      rw [zeroCells_w64, zeroCells_w64]
      apply Array.ext'
      rw [Array.toList_append, Array.toList_append]
      show L.flatMap W64.cells ++ (List.replicate k 0).flatMap W64.cells ++ (List.replicate (grownCap w (c + k) c e - (c + k)) 0).flatMap W64.cells = (L ++ List.replicate (grownCap w (c + k) c e - c) 0).flatMap W64.cells
      rw [← flat_app, ← flat_app, List.append_assoc, List.replicate_append_replicate, show k + (grownCap w (c + k) c e - (c + k)) = grownCap w (c + k) c e - c by omega])
    rw [hlen] at this
    exact this
  rcases h.form with ⟨h1, h2⟩ | ⟨g, cap, h1, -, -, -, -⟩
  · injection h1 with h1 h3 h4
    subst h1 h3 h2
    have hr := Lib.run_append_nil_zeros (P := P) w t tn ty e i _ .i64 kn ht htn hi hz k hk (by omega) (by omega) (by rw [hby]; omega)
    rw [Nat.zero_add] at fin hge ⊢
    refine ⟨_, _, hr, ?_⟩
    obtain ⟨f1, f2⟩ := fin (w.drew.alloc (.cells (Builtin.zeroCells (Value.int .u64 0).cells k ++ Builtin.zeroCells (Value.int .u64 0).cells (grownCap w k 0 e - k)) e)) (by
      congr 3
      apply Array.ext'
      rw [Array.toList_append]
      rfl)
    exact ⟨f1, hge, f2⟩
  · injection h1 with h1 h3 h4
    subst h1 h4
    have hw : IntKind.i64.wrap (k : Int) = k := by rw [IntKind.wrap_i64]; omega
    have hn : ¬ (c + k ≤ c) := by omega
    have hneg : ¬ ((k : Int) < 0) := by omega
    have h48i : ¬ (281474976710656 < (k : Int) * 8) := by omega
    have h63' : ¬ (9223372036854775807 < ((c : Int) + (k : Int))) := by omega
    have h48' : ¬ (281474976710656 < Builtin.nextslicecap (c + k) c * 8) := by have := growslice_fits (old := c) (need := c + k) (bytes := 8) (by omega) hs; omega
    have hk0 : k ≠ 0 := by omega
    have hlo : (L.flatMap W64.cells).length = c * 1 := by rw [W64.enc.flat_length, hL]
    have holds := h.cells (g := g) rfl
    have hfo := run_firstCells_some (P := P) w.drew 1 c ⟨g, 0, none⟩ c c (L.flatMap W64.cells) hlo (by simpa using holds)
    refine ⟨grownCap w (c + k) c e, w.drew.alloc (.cells ((L.flatMap W64.cells).toArray ++ Builtin.zeroCells (Value.int .u64 0).cells k ++ Builtin.zeroCells (Value.int .u64 0).cells (grownCap w (c + k) c e - (c + k))) e), ?_, (fin _ rfl).1, hge, (fin _ rfl).2⟩
    simp [Builtin.append_, run_underlying ht, run_underlying htn, sizeOf, typeInfo, zeroValue, hi, hz, hsize, hby, asInt, asIntOf, hw, hn, hneg, hk0, h48i, h63', h48', Question.forced, hfo, newRow, grownCap]
end
end Go.Proofs.YtjegncmkebbdfaaGreatDoor

namespace Go.Proofs.YtjegncmkebbdfaaGreatDoor
open Go.RowKit
attribute [local simp] heap_drew
theorem info_u64 : (Tryz.prog.info? 34).map (fun i => (i.zero, i.size, i.bytes)) = some (some (.int .u64 0), 1, 8) := by kernel_rfl
theorem under_u64s : Tryz.prog.underlying 38 = some (.slice 34) := Tryz.underlying38
theorem under_int : Tryz.prog.underlying 3 = some (.int .i64) := by kernel_rfl
set_option maxRecDepth 100000 in
set_option maxHeartbeats 4000000 in
theorem grow_any {base c : Nat} {A : Option Addr} {ws : List Int} {w : World} (hs : WsAt base w A c ws) (k : Nat) (hk : 0 < k) (hsz : ws.length + k ≤ 100000000) (hb : base ≤ w.heap.size) :
    Calls Tryz.prog 123 #[.slice A ws.length c, .int .i64 k] w fun r w' => ∃ A' c', r = .returned (.slice A' ws.length c') ∧ WsAt base w' A' c' ws ∧ ws.length + k ≤ c' ∧ Below w.heap.size w w' ∧ ((A' = A ∧ c' = c) ∨ ∃ g, A' = some ⟨g, 0, none⟩ ∧ w.heap.size ≤ g) := by
  have hc := hs.cap
  have hle := hs.le
  unfold maxLen at hc
  have w1 : IntKind.i64.wrap ((c : Int) - (ws.length : Int)) = (c : Int) - (ws.length : Int) := by rw [IntKind.wrap_i64]; omega
  have w2 : IntKind.i64.wrap ((k : Int) - ((c : Int) - (ws.length : Int))) = (k : Int) - ((c : Int) - (ws.length : Int)) := by rw [IntKind.wrap_i64]; omega
  have hk0 : ¬ (k : Int) < 0 := by omega
  by_cases hg : c < ws.length + k
  · obtain ⟨k', hk'⟩ : ∃ k', k' = ws.length + k - c := ⟨_, rfl⟩
    have e1 : (k : Int) - ((c : Int) - (ws.length : Int)) = (k' : Int) := by omega
    have hpos : (0 : Int) < (k' : Int) := by omega
    obtain ⟨i, hi, hz, hsize, hby⟩ := info_parts info_u64
    obtain ⟨c', w', hrun, hown, hge, hbw⟩ := run_grow (P := Tryz.prog) (tn := 3) (ty := 38) under_u64s under_int hi hz hsize hby (c := c) (L := ws ++ List.replicate (c - ws.length) 0) (by rw [List.length_append, List.length_replicate]; omega) hs.own k' (by omega) (by omega) hb
    have hW : WsAt base w' (some ⟨w.heap.size, 0, none⟩) c' ws := ⟨by omega, by
      rw [List.append_assoc, List.replicate_append_replicate, show c - ws.length + (c' - c) = c' - ws.length by omega] at hown
      exact hown⟩
    have hge2 : ws.length + k ≤ c' := by omega
    have q1 : (ws.length : Int) ≤ (c' : Int) := by omega
    rw [e1] at w2
    clear hs hown hz hi hsize hby
    clear hk'
    go_enter Tryz.func123, Tryz.ntmps123
    go_wp2_with (at_builtin; refine Lib.wpList_append_run _ rfl _ _ _ _ rfl _ _ rfl rfl _ _ hrun ?_)
    go_ret
    exact ⟨some ⟨w.heap.size, 0, none⟩, c', rfl, hW, hge2, hbw, .inr ⟨_, rfl, Nat.le_refl _⟩⟩
  · have hpos : ¬ (0 : Int) < (k : Int) - ((c : Int) - (ws.length : Int)) := by omega
    have hge2 : ws.length + k ≤ c := by omega
    go_enter Tryz.func123, Tryz.ntmps123
    go_wp2_with fail
    go_ret
    exact ⟨A, c, rfl, hs, hge2, below_of, .inl ⟨rfl, rfl⟩⟩
end Go.Proofs.YtjegncmkebbdfaaGreatDoor

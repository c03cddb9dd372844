/-
  Small texts of this seat, put into one. Conditions stand in each theorem.
-/
import Derived.Test.YtgddapgdeaeggaaC23Ref7
import Derived.Test.YtgddapgdeaeggaaWireID
import Derived.Test.YtgddapgdeaeggaaWireSame
namespace Go.Proofs.Ytgddapgdeaeggaa
open Go.RowKit
def RngE (e : StubE) : Prop := 0 ≤ e.number ∧ e.number < 18446744073709551616 ∧ e.lastUse < 9223372036854775808 ∧ e.distance < 9223372036854775808 ∧ e.lockSerial < 9223372036854775808
def nums (e : StubE) : List Int := [e.clas, e.lastUse, e.distance, e.lockMachine, e.lockSerial]
def flags (e : StubE) : List Bool := [e.touched, e.weak, e.dead]
def headE (e : StubE) : List Int := uintL e.owner ++ uintL e.number ++ (uintL e.iDMachine ++ uintL e.iDSerial)
def encE (e : StubE) : List Int := headE e ++ (nums e).flatMap uintL ++ (flags e).flatMap boolL
def encS (q : List StubE) : List Int := uintL (q.length : Int) ++ q.flatMap encE
theorem validE_bounds {e : StubE} (h : validE e = true) : 1 ≤ e.owner ∧ e.owner ≤ 8 ∧ 1 ≤ e.iDMachine ∧ e.iDMachine ≤ 8 ∧ 1 ≤ e.iDSerial ∧ e.iDSerial ≤ 1099511627775 ∧ 0 ≤ e.clas ∧ e.clas ≤ 60 ∧ 0 ≤ e.lastUse ∧ 0 ≤ e.distance ∧ 0 ≤ e.lockMachine ∧ e.lockMachine ≤ 8 ∧ 0 ≤ e.lockSerial := by
  simp only [validE, validID, validLock, zeroLock, Bool.and_eq_true, Bool.or_eq_true, decide_eq_true_eq, beq_iff_eq] at h
  omega
def U64 (n : Int) : Prop := 0 ≤ n ∧ n < 18446744073709551616
theorem nums_u64 {e : StubE} (h : validE e = true) (hr : RngE e) : ∀ n ∈ nums e, U64 n := by
  have hb := validE_bounds h
  unfold RngE at hr
  intro n hn
  simp only [nums, List.mem_cons, List.not_mem_nil, or_false] at hn
  unfold U64
  rcases hn with rfl | rfl | rfl | rfl | rfl <;> omega
theorem nums_len {e : StubE} (h : ∀ n ∈ nums e, U64 n) : ((nums e).flatMap uintL).length ≤ 45 := by
  have h1 := fun n hn => uintL_len (h n hn).2
  have a := h1 e.clas (by simp [nums])
  have b := h1 e.lastUse (by simp [nums])
  have c := h1 e.distance (by simp [nums])
  have d := h1 e.lockMachine (by simp [nums])
  have f := h1 e.lockSerial (by simp [nums])
  simp only [nums, List.flatMap_cons, List.flatMap_nil, List.length_append, List.length_nil]; omega
theorem headE_len {e : StubE} (h : validE e = true) (hr : RngE e) : (headE e).length ≤ 36 := by
  have hb := validE_bounds h
  unfold RngE at hr
  have a := uintL_len (n := e.owner) (by omega)
  have b := uintL_len (n := e.number) (by omega)
  have c := uintL_len (n := e.iDMachine) (by omega)
  have d := uintL_len (n := e.iDSerial) (by omega)
  simp only [headE, List.length_append]; omega
theorem encE_len {e : StubE} (h : validE e = true) (hr : RngE e) : (encE e).length ≤ 84 := by
  have h1 := headE_len h hr
  have h2 := nums_len (nums_u64 h hr)
  simp only [encE, flags, boolL, List.length_append, List.flatMap_cons, List.flatMap_nil, List.length_cons, List.length_nil]; omega
theorem encFlat_len : ∀ {q : List StubE}, (∀ e ∈ q, validE e = true ∧ RngE e) → (q.flatMap encE).length ≤ q.length * 84
  | [], _ => by simp
  | e :: q, h => by
    have h1 := encE_len (h e (List.mem_cons_self ..)).1 (h e (List.mem_cons_self ..)).2
    have h2 := encFlat_len (q := q) fun x hx => h x (List.mem_cons_of_mem _ hx)
    simp only [List.flatMap_cons, List.length_append, List.length_cons]; omega
theorem flat_snoc {α β : Type} {f : α → List β} {l : List α} {k : Nat} {x : α} (hx : l[k]? = some x) : (l.take (k + 1)).flatMap f = (l.take k).flatMap f ++ f x := by
  rw [take_snoc_get hx, List.flatMap_append]; simp
theorem take_flat_len {α β : Type} {f : α → List β} {l : List α} (k : Nat) : ((l.take k).flatMap f).length ≤ (l.flatMap f).length := by
  have h : l.flatMap f = (l.take k).flatMap f ++ (l.drop k).flatMap f := by rw [← List.flatMap_append, List.take_append_drop]
  rw [h, List.length_append]; omega
theorem appendUint_x {base : Nat} {A : Option Addr} {c : Nat} {l : List Int} (n : Int) {x : Int} {w : World} (hown : Own U8.cells 1 5 base w (.slice A l.length c) l) (hl : l.length ≤ 1000000000) (hb : base ≤ w.heap.size) (h0 : 0 ≤ n) (h1 : n < 18446744073709551616) (hx : x = n) :
    Calls Try.prog 54 #[.slice A l.length c, .int .u64 x] w fun r w' => ∃ q A' c', Hid (q = l ++ uintL n) ∧ r = .returned (.slice A' q.length c') ∧ Own U8.cells 1 5 base w' (.slice A' q.length c') q ∧ Below base w w' ∧ Step w w' (.slice A l.length c) (.slice A' q.length c') := by
  subst hx; exact appendUint_q x hown hl hb h0 h1
set_option maxRecDepth 100000 in
set_option maxHeartbeats 2000000 in
theorem appendID_q {base : Nat} {A : Option Addr} {c : Nat} {l : List Int} (m s : Int) {w : World} (hown : Own U8.cells 1 5 base w (.slice A l.length c) l) (hl : l.length ≤ 100000000) (hb : base ≤ w.heap.size) (hm : U64 m) (hs : U64 s) :
    Calls Try.prog 55 #[.slice A l.length c, .agg #[.int .i64 m, .int .i64 s]] w fun r w' => ∃ q A' c', Hid (q = l ++ (uintL m ++ uintL s)) ∧ r = .returned (.slice A' q.length c') ∧ Own U8.cells 1 5 base w' (.slice A' q.length c') q ∧ Below base w w' ∧ Step w w' (.slice A l.length c) (.slice A' q.length c') := by
  have hwm := hide (show IntKind.u64.wrap m = m by rw [IntKind.wrap_u64]; unfold U64 at hm; omega)
  have hws := hide (show IntKind.u64.wrap s = s by rw [IntKind.wrap_u64]; unfold U64 at hs; omega)
  have hml := uintL_len hm.2
  have Hm := hide hm
  have Hs := hide hs
  clear hm hs
  go_enter Try.func55, Try.ntmps55
  go_upto_region 1 with fail
  refine wp_name ?_
  intro w5 hw5
  have l5 := later_name' hw5 (inferInstance : Later w _)
  have b5 : w5.heap[w.heap.size]? = some (.cells #[.int .i64 m, .int .i64 s] 34 (0, 0)) := (by rw [← hw5]; simp only [heap_alloc_if, World.size_alloc]; repeat (first | rw [if_pos trivial] | rw [if_neg (by omega)] | rw [if_pos (by omega)]); try rfl)
  have hz5 : w.heap.size ≤ w5.heap.size := (below_of (b := w)).size
  have ho5 := hown.later w5
  have hbz5 : base ≤ w5.heap.size := Nat.le_trans hb hz5
  have hb5 : Below w.heap.size w w5 := below_of
  have hne5 : (Value.slice A l.length c).ownBlock ≠ some w.heap.size := fun e => absurd (World.ownsRow.lt hown _ e).2 (by omega)
  have hst5 : Step w w5 (.slice A l.length c) (.slice A l.length c) := Step.of_below hb5
  clear hw5
  have q0 := blk_cell b5 0
  have q1 := blk_cell b5 1
  simp at q0 q1
  refine wp_region_held_drew (S := fun w' => w'.cell? ⟨w.heap.size, 0, none⟩ = some (.int .i64 m) ∧ w'.cell? ⟨w.heap.size, 1, none⟩ = some (.int .i64 s)) (by kernel_rfl) ⟨q0, q1⟩ (fun hHeld => ?_)
  refine wpAnyH_take (i := 0) (oi := _) (v := ?_) rfl (by kernel_rfl) (by kernel_rfl) (by kernel_rfl) (fun _ _ _ h => h) (Or.inl ⟨by rfl, ?_⟩) (by assumption) ?_
  rotate_left 1
  · (intro wy hSw; (try dsimp only at hSw); go_simp; try with_reducible rfl)
  (try simp only [Act.put, List.setIfInBounds_toArray, List.set_cons_zero, List.set_cons_succ])
  refine wpAnyH_take (i := 1) (oi := _) (v := ?_) rfl (by kernel_rfl) (by kernel_rfl) (by kernel_rfl) (fun _ _ _ h => h) (Or.inl ⟨by rfl, ?_⟩) (by assumption) ?_
  rotate_left 1
  · (intro wy hSw; (try dsimp only at hSw); go_simp; try with_reducible rfl)
  (try simp only [Act.put, List.setIfInBounds_toArray, List.set_cons_zero, List.set_cons_succ])
  refine wpAnyH_take (i := 2) (oi := _) (v := ?_) rfl (by kernel_rfl) (by kernel_rfl) (by kernel_rfl) (fun _ _ _ h => h) (Or.inl ⟨by rfl, ?_⟩) (by assumption) ?_
  rotate_left 1
  · (intro wy hSw; (try dsimp only at hSw); go_simp; try with_reducible rfl)
  (try simp only [Act.put, List.setIfInBounds_toArray, List.set_cons_zero, List.set_cons_succ])
  refine wpAnyH_take (i := 3) (oi := _) (v := ?_) rfl (by kernel_rfl) (by kernel_rfl) (by kernel_rfl) (fun _ _ _ h => h) (Or.inl ⟨by rfl, ?_⟩) (by assumption) ?_
  rotate_left 1
  · (intro wy hSw; (try dsimp only at hSw); go_simp; try with_reducible rfl)
  (try simp only [Act.put, List.setIfInBounds_toArray, List.set_cons_zero, List.set_cons_succ])
  refine wpAnyH_take (i := 5) (oi := _) (v := ?_) rfl (by kernel_rfl) (by kernel_rfl) (by kernel_rfl) (fun _ _ _ h => h) (Or.inl ⟨by rfl, ?_⟩) (by assumption) ?_
  rotate_left 1
  · (intro wy hSw; (try dsimp only at hSw); go_simp; try with_reducible rfl)
  (try simp only [Act.put, List.setIfInBounds_toArray, List.set_cons_zero, List.set_cons_succ])
  refine wpAnyH_take (i := 6) (oi := _) (v := ?_) rfl (by kernel_rfl) (by kernel_rfl) (by kernel_rfl) (fun _ _ _ h => h) (Or.inl ⟨by rfl, ?_⟩) (by assumption) ?_
  rotate_left 1
  · (intro wy hSw; (try dsimp only at hSw); go_simp; try with_reducible rfl)
  (try simp only [Act.put, List.setIfInBounds_toArray, List.set_cons_zero, List.set_cons_succ])
  refine wpAnyH_take (i := 7) (oi := _) (v := ?_) rfl (by kernel_rfl) (by kernel_rfl) (by kernel_rfl) (fun _ _ _ h => h) (Or.inl ⟨by rfl, ?_⟩) (by assumption) ?_
  rotate_left 1
  · (intro wy hSw; (try dsimp only at hSw); go_simp; try with_reducible rfl)
  (try simp only [Act.put, List.setIfInBounds_toArray, List.set_cons_zero, List.set_cons_succ])
  refine wpAnyH_ready (rs := [4]) (by kernel_rfl) (by simp) ?_
  refine AllReadyH.cons (o := _) rfl (fun K9 hK9 => ?_) AllReadyH.nil
  go_simp
  refine (appendUint_x m (w := w5.drew) (l := l) (ho5.later _) (by omega) hbz5 Hm.out.1 Hm.out.2 hwm.out).mono ?_
  rintro r w6 ⟨r1, A6, c6, hr1, rfl, ho6, hb6, hs6⟩
  have hs6' : Step w5 w6 (.slice A l.length c) (.slice A6 r1.length c6) := Step.trans (Step.drew Step.refl) hs6
  obtain ⟨b6, hne6⟩ := hs6'.boxed b5 hne5
  have hz6 : base ≤ w6.heap.size := Nat.le_trans hbz5 hs6.size
  have hr1l : r1.length ≤ 1000000000 := by rw [hr1.out, List.length_append]; omega
  have p0 := blk_cell b6 0
  have p1 := blk_cell b6 1
  simp at p0 p1
  refine hK9.out _ _ (by exact ⟨p0, p1⟩) (fun hHeld => ?_)
  clear hK9 K9
  (try simp only [Act.put, List.setIfInBounds_toArray, List.set_cons_zero, List.set_cons_succ])
  refine wpAnyH_ready (rs := [8]) (by kernel_rfl) (by simp) ?_
  refine AllReadyH.cons (o := _) rfl (fun K9 hK9 => ?_) AllReadyH.nil
  go_simp
  refine (appendUint_x s (l := r1) ho6 hr1l hz6 Hs.out.1 Hs.out.2 hws.out).mono ?_
  rintro r w7 ⟨r2, A7, c7, hr2, rfl, ho7, hb7, hs7⟩
  obtain ⟨b7, hne7⟩ := hs7.boxed b6 hne6
  have t0 := blk_cell b7 0
  have t1 := blk_cell b7 1
  simp at t0 t1
  refine hK9.out _ _ (by exact ⟨t0, t1⟩) (fun hHeld => ?_)
  clear hK9 K9
  (try simp only [Act.put, List.setIfInBounds_toArray, List.set_cons_zero, List.set_cons_succ])
  refine wpAnyH_ready (rs := [9]) (by kernel_rfl) (by simp) ?_
  refine AllReadyH.cons (o := _) rfl (fun K9 hK9 => ?_) AllReadyH.nil
  go_simp
  refine hK9.out _ _ (by exact ⟨t0, t1⟩) (fun hHeld => ?_)
  clear hK9 K9
  (try simp only [Act.put, List.setIfInBounds_toArray, List.set_cons_zero, List.set_cons_succ])
  refine wpAnyH_done (by kernel_rfl) ?_ _
  all_goals go_wp2_with fail
  all_goals go_ret
  all_goals exact ⟨r2, A7, c7, hide (by rw [hr2.out, hr1.out, List.append_assoc]), rfl, ho7, (hb5.mono hb).trans (((Below.refl base w5).drew.trans hb6).trans hb7), hst5.trans (hs6'.trans hs7)⟩
/-! Encode -/
def EncPost (w : World) (l : List StubE) (r : Ending) (w' : World) : Prop := ∃ q0 q A c, Hid (q0.Perm l ∧ SortedS q0 ∧ q = encS q0) ∧ r = .returned (.slice A q.length c) ∧ q.length ≤ c ∧ c ≤ maxLen ∧ SlAt U8.cells 1 w' A q ∧ Below w.heap.size w w'
theorem run_lenM {p g : Nat} {l : List StubE} {w : World} (h : TabAt w p g l) : ∀ u [Later w u], (Builtin.len_ #[61] 3 #[.map (some g)]).run Try.prog u = .ok (.int .i64 (l.length : Int)) u := fun u i => by
  obtain ⟨_, bs, c, hm, hl, _⟩ := h.later u
  simp [Builtin.len_, run_underlying Try.underlying61, MapKept.run_getObj_map hm, ents_length hl, goInt]
end Go.Proofs.Ytgddapgdeaeggaa

namespace Go.Proofs.Ytgddapgdeaeggaa
open Go.RowKit
theorem Step.own {α : Type} {f : α → List Value} {s : Nat} {e : TypeId} {base : Nat} {w w' : World} {v v' u : Value} {l : List α} (h : Step w w' v v') (hu : Own f s e base w u l) (ha : Apart v u) : Own f s e base w' u l ∧ Apart v' u :=
  have k := ha.grown hu h.1 h.2
  ⟨k.2, k.1⟩
theorem Step.alloc {w w' : World} {v v' : Value} (h : Step w w' v v') {W : World} (hb : Below w'.heap.size w' W) : Step w W v v' := h.trans (Step.of_below hb)
theorem map_cell {α : Type} {f : α → Value} {ns : List α} {w : World} {nb : Nat} {e : TypeId} {cs : Array Value} (h : w.heap[nb]? = some (.cells cs e (0, 0))) (hc : cs = (ns.map f).toArray) {j : Nat} {n : α} (hj : ns[j]? = some n) : w.cell? ⟨nb, j, none⟩ = some (f n) := by
  rw [blk_cell h j, hc]; simp [hj]
set_option maxRecDepth 100000 in
set_option maxHeartbeats 8000000 in
theorem encode_any (p g : Nat) (l : List StubE) (w : World) (h : TabAt w p g l) (hl : l.length ≤ 3000) (hv : ∀ e ∈ l, validE e = true ∧ RngE e) : Calls Try.prog 26 #[.pointer (some ⟨p, 0, none⟩)] w (EncPost w l) := by
  have hT := h.later
  have hp := h.cell
  have hlm := run_lenM h
  have hs64 : (l.length : Int) % 18446744073709551616 = (l.length : Int) := by omega
  have hs64' := hide hs64
  have hu0 := uintL_len (n := (l.length : Int)) (by omega)
  go_enter Try.func26, Try.ntmps26
  go_upto_region 2 with (go_at_call 54; refine (appendUint_x (l.length : Int) (l := []) (base := w.heap.size) Own.nil (by simp) (below_of (b := w)).size (by omega) (by omega) (by first | rfl | exact hs64'.out | (rw [IntKind.wrap_u64]; exact hs64'.out))).mono ?_; rintro r w1 ⟨q1, A1, c1, hq1, rfl, ho1, hb1, -⟩; have l1 := later_base (W := w) hb1)
  have hq1l : q1.length ≤ 9 := by rw [hq1.out]; simpa using hu0
  clear hs64
  go_upto_region 3 with (go_at_call 12; refine (list_any p g l _ (hT _) (by omega)).mono ?_; rintro r w3 ⟨q0, B, D, hq0, rfl, hoq, hb3⟩; have l3 := later hb3)
  have hql : q0.length ≤ 3000 := by rw [hq0.out.1.length_eq]; exact hl
  have hqv := hide (fun e (he : e ∈ q0) => hv e (hq0.out.1.mem_iff.1 he))
  have hz1 : w.heap.size ≤ w1.heap.size := hb1.size
  have hgl : g < w.heap.size := h.2.lt
  have hap : Apart (.slice A1 q1.length c1) (.slice B q0.length D) := fun k h1 h2 => by
    have := (World.ownsRow.lt ho1 k h1).2
    have := (World.ownsRow.lt hoq k h2).1
    omega
  have ho3 := ho1.later w3
  have hb03 : Below w.heap.size w w3 := below_of
  have hq1' := hide (show q1 = uintL (l.length : Int) ++ (q0.take 0).flatMap encE by rw [hq1.out]; simp)
  have hoq3 := hoq.mono hz1
  clear hq1 hoq hlm hT hp ho1
  go_loopw [3, 20] (fun v iv wr => ∃ (k : Nat) (q : List Int) (A : Option Addr) (c : Nat), k ≤ q0.length ∧ v = .slice A q.length c ∧ iv = .int .i64 k ∧ Hid (q = uintL (l.length : Int) ++ (q0.take k).flatMap encE) ∧ Own U8.cells 1 5 w.heap.size wr (.slice A q.length c) q ∧ Own StubE.cells 12 37 w.heap.size wr (.slice B q0.length D) q0 ∧ Apart (.slice A q.length c) (.slice B q0.length D) ∧ Below w.heap.size w wr) (fun _ iv _ => q0.length - (intOf iv).toNat)
  case atStart => exact ⟨0, q1, A1, c1, by omega, rfl, rfl, hq1', ho3, hoq3, hap, hb03⟩
  case round =>
    clear hap ho3 hoq3 hb03 l1 l3 hq1'
    obtain ⟨k, q, A, c, hk, rfl, rfl, hq, ho, hoq, hap, hbr⟩ := hrel
    have hzr := hbr.size
    have hqn : q.length ≤ 300000 := by
      rw [hq.out, List.length_append]
      have h1 := take_flat_len (f := encE) (l := q0) k
      have h2 := encFlat_len hqv.out
      omega
    by_cases hlt : k < q0.length
    · obtain ⟨b1, o1, x, rfl, hx, C1⟩ := StubE.get (hoq.at_ StubE.enc).2.2 hlt
      obtain ⟨hxv, hxr⟩ := hqv.out x (List.mem_of_getElem? hx)
      have hbd := hide (validE_bounds hxv)
      have hU := hide (nums_u64 hxv hxr)
      have hHL := hide (headE_len hxv hxr)
      have hT2 := hide (flat_snoc (f := encE) hx)
      have hxr' := hide hxr
      have w0' : IntKind.u64.wrap x.owner = x.owner := by rw [IntKind.wrap_u64]; have := hbd.out; omega
      have hwo := hide w0'
      have hnu := hide (show U64 x.number from ⟨hxr.1, hxr.2.1⟩)
      have hmu := hide (show U64 x.iDMachine by have := hbd.out; unfold U64; omega)
      have hsu := hide (show U64 x.iDSerial by have := hbd.out; unfold U64; omega)
      have hlo := hide (uintL_len (n := x.owner) (by have := hbd.out; omega))
      have hln := hide (uintL_len hnu.out.2)
      clear hx w0' hxr hxv
      go_upto_region 5 with fail
      refine wp_name ?_
      intro w5 hw5
      have l5 := later_name' hw5 (inferInstance : Later wr _)
      have b5 : w5.heap[wr.heap.size]? = some (.cells x.arr 37 (0, 0)) := (by rw [← hw5]; simp only [heap_alloc_if, World.size_alloc]; repeat (first | rw [if_pos trivial] | rw [if_neg (by omega)] | rw [if_pos (by omega)]); try rfl)
      have hb5 : Below wr.heap.size wr w5 := below_of
      have hst5 : Step wr w5 (.slice A q.length c) (.slice A q.length c) := Step.of_below hb5
      have ho5 := ho.later w5
      have hz5 := hb5.size
      have hbz5 : w.heap.size ≤ w5.heap.size := by omega
      have hne5 : (Value.slice A q.length c).ownBlock ≠ some wr.heap.size := fun e => absurd (World.ownsRow.lt ho _ e).2 (by omega)
      clear hw5 C1
      have q0c := blk_cell b5 0
      have q1c := blk_cell b5 1
      have q2c := blk_cell b5 2
      have q3c := blk_cell b5 3
      simp at q0c q1c q2c q3c
      refine wp_region_held_drew (S := fun w' => w'.cell? ⟨wr.heap.size, 0, none⟩ = some (.int .i64 x.owner) ∧ w'.cell? ⟨wr.heap.size, 1, none⟩ = some (.int .u64 x.number) ∧ w'.cell? ⟨wr.heap.size, 2, none⟩ = some (.int .i64 x.iDMachine) ∧ w'.cell? ⟨wr.heap.size, 3, none⟩ = some (.int .i64 x.iDSerial)) (by kernel_rfl) ⟨q0c, q1c, q2c, q3c⟩ (fun hHeld => ?_)
      refine wpAnyH_take (i := 0) (oi := _) (v := ?_) rfl (by kernel_rfl) (by kernel_rfl) (by kernel_rfl) (fun _ _ _ h => h) (Or.inl ⟨by rfl, ?_⟩) (by assumption) ?_
      rotate_left 1
      · (intro wy hSw; (try dsimp only at hSw); go_simp; try with_reducible rfl)
      (try simp only [Act.put, List.setIfInBounds_toArray, List.set_cons_zero, List.set_cons_succ])
      refine wpAnyH_take (i := 1) (oi := _) (v := ?_) rfl (by kernel_rfl) (by kernel_rfl) (by kernel_rfl) (fun _ _ _ h => h) (Or.inl ⟨by rfl, ?_⟩) (by assumption) ?_
      rotate_left 1
      · (intro wy hSw; (try dsimp only at hSw); go_simp; try with_reducible rfl)
      (try simp only [Act.put, List.setIfInBounds_toArray, List.set_cons_zero, List.set_cons_succ])
      refine wpAnyH_take (i := 2) (oi := _) (v := ?_) rfl (by kernel_rfl) (by kernel_rfl) (by kernel_rfl) (fun _ _ _ h => h) (Or.inl ⟨by rfl, ?_⟩) (by assumption) ?_
      rotate_left 1
      · (intro wy hSw; (try dsimp only at hSw); go_simp; try with_reducible rfl)
      (try simp only [Act.put, List.setIfInBounds_toArray, List.set_cons_zero, List.set_cons_succ])
      refine wpAnyH_take (i := 3) (oi := _) (v := ?_) rfl (by kernel_rfl) (by kernel_rfl) (by kernel_rfl) (fun _ _ _ h => h) (Or.inl ⟨by rfl, ?_⟩) (by assumption) ?_
      rotate_left 1
      · (intro wy hSw; (try dsimp only at hSw); go_simp; try with_reducible rfl)
      (try simp only [Act.put, List.setIfInBounds_toArray, List.set_cons_zero, List.set_cons_succ])
      refine wpAnyH_take (i := 5) (oi := _) (v := ?_) rfl (by kernel_rfl) (by kernel_rfl) (by kernel_rfl) (fun _ _ _ h => h) (Or.inl ⟨by rfl, ?_⟩) (by assumption) ?_
      rotate_left 1
      · (intro wy hSw; (try dsimp only at hSw); go_simp; try with_reducible rfl)
      (try simp only [Act.put, List.setIfInBounds_toArray, List.set_cons_zero, List.set_cons_succ])
      refine wpAnyH_take (i := 6) (oi := _) (v := ?_) rfl (by kernel_rfl) (by kernel_rfl) (by kernel_rfl) (fun _ _ _ h => h) (Or.inl ⟨by rfl, ?_⟩) (by assumption) ?_
      rotate_left 1
      · (intro wy hSw; (try dsimp only at hSw); go_simp; try with_reducible rfl)
      (try simp only [Act.put, List.setIfInBounds_toArray, List.set_cons_zero, List.set_cons_succ])
      refine wpAnyH_take (i := 8) (oi := _) (v := ?_) rfl (by kernel_rfl) (by kernel_rfl) (by kernel_rfl) (fun _ _ _ h => h) (Or.inl ⟨by rfl, ?_⟩) (by assumption) ?_
      rotate_left 1
      · (intro wy hSw; (try dsimp only at hSw); go_simp; try with_reducible rfl)
      (try simp only [Act.put, List.setIfInBounds_toArray, List.set_cons_zero, List.set_cons_succ])
      refine wpAnyH_take (i := 9) (oi := _) (v := ?_) rfl (by kernel_rfl) (by kernel_rfl) (by kernel_rfl) (fun _ _ _ h => h) (Or.inl ⟨by rfl, ?_⟩) (by assumption) ?_
      rotate_left 1
      · (intro wy hSw; (try dsimp only at hSw); go_simp; try with_reducible rfl)
      (try simp only [Act.put, List.setIfInBounds_toArray, List.set_cons_zero, List.set_cons_succ])
      refine wpAnyH_ready (rs := [4]) (by kernel_rfl) (by simp) ?_
      refine AllReadyH.cons (o := _) rfl (fun K9 hK9 => ?_) AllReadyH.nil
      go_simp
      refine (appendUint_x x.owner (w := w5.drew) (l := q) (ho5.later _) (by omega) hbz5 (by have := hbd.out; omega) (by have := hbd.out; omega) hwo.out).mono ?_
      rintro r w6 ⟨r1, A6, c6, hr1, rfl, ho6, hb6, hs6⟩
      have hs6' : Step w5 w6 (.slice A q.length c) (.slice A6 r1.length c6) := Step.trans (Step.drew Step.refl) hs6
      obtain ⟨b6, hne6⟩ := hs6'.boxed b5 hne5
      have hz6 : w.heap.size ≤ w6.heap.size := Nat.le_trans hbz5 hs6.size
      have hr1l : r1.length ≤ 300009 := by rw [hr1.out, List.length_append]; have := hlo.out; omega
      have p0 := blk_cell b6 0
      have p1 := blk_cell b6 1
      have p2 := blk_cell b6 2
      have p3 := blk_cell b6 3
      simp at p0 p1 p2 p3
      refine hK9.out _ _ (by exact ⟨p0, p1, p2, p3⟩) (fun hHeld => ?_)
      clear hK9 K9
      (try simp only [Act.put, List.setIfInBounds_toArray, List.set_cons_zero, List.set_cons_succ])
      refine wpAnyH_ready (rs := [7]) (by kernel_rfl) (by simp) ?_
      refine AllReadyH.cons (o := _) rfl (fun K9 hK9 => ?_) AllReadyH.nil
      go_simp
      refine (appendUint_q x.number (l := r1) ho6 (by omega) hz6 hnu.out.1 hnu.out.2).mono ?_
      rintro r w7 ⟨r2, A7, c7, hr2, rfl, ho7, hb7, hs7⟩
      obtain ⟨b7, hne7⟩ := hs7.boxed b6 hne6
      have hz7 : w.heap.size ≤ w7.heap.size := Nat.le_trans hz6 hs7.size
      have hr2l : r2.length ≤ 300018 := by rw [hr2.out, List.length_append]; have := hln.out; omega
      have t0 := blk_cell b7 0
      have t1 := blk_cell b7 1
      have t2 := blk_cell b7 2
      have t3 := blk_cell b7 3
      simp at t0 t1 t2 t3
      refine hK9.out _ _ (by exact ⟨t0, t1, t2, t3⟩) (fun hHeld => ?_)
      clear hK9 K9
      (try simp only [Act.put, List.setIfInBounds_toArray, List.set_cons_zero, List.set_cons_succ])
      refine wpAnyH_ready (rs := [10]) (by kernel_rfl) (by simp) ?_
      refine AllReadyH.cons (o := _) rfl (fun K9 hK9 => ?_) AllReadyH.nil
      go_simp
      refine (appendID_q x.iDMachine x.iDSerial (l := r2) ho7 (by omega) hz7 hmu.out hsu.out).mono ?_
      rintro r w8 ⟨r3, A8, c8, hr3, rfl, ho8, hb8, hs8⟩
      obtain ⟨b8, hne8⟩ := hs8.boxed b7 hne7
      have hz8 : w.heap.size ≤ w8.heap.size := Nat.le_trans hz7 hs8.size
      have s0 := blk_cell b8 0
      have s1 := blk_cell b8 1
      have s2 := blk_cell b8 2
      have s3 := blk_cell b8 3
      simp at s0 s1 s2 s3
      refine hK9.out _ _ (by exact ⟨s0, s1, s2, s3⟩) (fun hHeld => ?_)
      clear hK9 K9
      (try simp only [Act.put, List.setIfInBounds_toArray, List.set_cons_zero, List.set_cons_succ])
      refine wpAnyH_ready (rs := [11]) (by kernel_rfl) (by simp) ?_
      refine AllReadyH.cons (o := _) rfl (fun K9 hK9 => ?_) AllReadyH.nil
      go_simp
      refine hK9.out _ _ (by exact ⟨s0, s1, s2, s3⟩) (fun hHeld => ?_)
      clear hK9 K9
      (try simp only [Act.put, List.setIfInBounds_toArray, List.set_cons_zero, List.set_cons_succ])
      refine wpAnyH_done (by kernel_rfl) ?_ _
      have hst8 : Step wr w8 (.slice A q.length c) (.slice A8 r3.length c8) := hst5.trans ((hs6'.trans hs7).trans hs8)
      have hb08 : Below w.heap.size w w8 := (((hbr.trans (hb5.mono hzr)).trans ((Below.refl w.heap.size w5).drew.trans hb6)).trans hb7).trans hb8
      have hr3e := hide (show r3 = q ++ headE x by rw [hr3.out, hr2.out, hr1.out]; simp [headE])
      have hr3l : r3.length ≤ 300036 := by rw [hr3e.out, List.length_append]; have := hHL.out; omega
      clear hst5 hs6 hs6' hs7 hs8 hr1 hr2 hr3 b5 b6 b7 hne5 hne6 hne7 ho5 ho6 ho7 hb5 hb6 hb7 hb8 p0 p1 p2 p3 q0c q1c q2c q3c t0 t1 t2 t3 hHeld ho l5 s0 s1 s2 s3
      have B8 := boxed b8
      have l8 : Later w8 w8 := Later.refl
      go_upto_region 7 with fail
      refine wp_name ?_
      intro w9 hw9
      have l9 := later_name' hw9 (inferInstance : Later w8 _)
      have b9 : w9.heap[w8.heap.size]? = some (.cells ((nums x).map (Value.int .i64)).toArray 3 (0, 0)) := (by rw [← hw9]; simp only [heap_alloc_if, World.size_alloc]; repeat (first | rw [if_pos trivial] | rw [if_neg (by omega)] | rw [if_pos (by omega)]); try rfl)
      have hb9 : Below w8.heap.size w8 w9 := below_of
      have hz9 := hb9.size
      have hx9 := (hb9.block _ (blk_lt b8)).trans b8
      have ho9 := ho8.later w9
      have hne9 : (Value.slice A8 r3.length c8).ownBlock ≠ some w8.heap.size := fun e => absurd (World.ownsRow.lt ho8 _ e).2 (by omega)
      have hr3z := hide (show r3 = r3 ++ ((nums x).take 0).flatMap uintL by simp)
      have hb09 : Below w.heap.size w w9 := hb08.trans (hb9.mono hz8)
      clear hw9 B8
      go_loopw [3, 49] (fun v iv w2 => ∃ (j : Nat) (r : List Int) (A : Option Addr) (c : Nat), j ≤ 5 ∧ v = .slice A r.length c ∧ iv = .int .i64 j ∧ Hid (r = r3 ++ ((nums x).take j).flatMap uintL) ∧ Own U8.cells 1 5 w.heap.size w2 (.slice A r.length c) r ∧ Step w9 w2 (.slice A8 r3.length c8) (.slice A r.length c) ∧ Below w.heap.size w w2) (fun _ iv _ => 5 - (intOf iv).toNat)
      case atStart => exact ⟨0, r3, A8, c8, by omega, rfl, rfl, hr3z, ho9, Step.refl, hb09⟩
      case round =>
        obtain ⟨j, r, A', c', hj, rfl, rfl, hr, ho', hst, hb2⟩ := hrel
        have hbn2 := (hst.boxed b9 hne9)
        have hrl : r.length ≤ 300090 := by
          rw [hr.out, List.length_append]
          have h1 := take_flat_len (f := uintL) (l := nums x) j
          have h2 := nums_len hU.out
          omega
        have hz2 := hb2.size
        by_cases hj5 : j < 5
        · obtain ⟨n, hn⟩ : ∃ n, (nums x)[j]? = some n := ⟨_, List.getElem?_eq_getElem (show j < (nums x).length from hj5)⟩
          have hnu2 := hide (hU.out n (List.mem_of_getElem? hn))
          have hcell := map_cell hbn2.1 rfl hn
          have hT3 := hide (flat_snoc (f := uintL) hn)
          have hwn := hide (show IntKind.u64.wrap n = n by rw [IntKind.wrap_u64]; have := hnu2.out; unfold U64 at this; omega)
          have hj5' : (j : Int) < 5 := by omega
          clear hn
          go_wp2_with (go_at_call 54; refine (appendUint_x n (l := r) ho' (by omega) hz2 hnu2.out.1 hnu2.out.2 (by first | rfl | exact hwn.out | (rw [← IntKind.wrap_u64]; exact hwn.out))).mono ?_; rintro r' w4 ⟨r4, A4, c4, hr4, rfl, ho4, hb4, hs4⟩)
          go_roundw
          case rel => exact ⟨j + 1, r4, A4, c4, by omega, rfl, by go_num, hide (by rw [hr4.out, hr.out, hT3.out, List.append_assoc]), ho4, hst.trans hs4, hb2.trans hb4⟩
          case measure => simp [intOf]; omega
        · have hj' : j = 5 := by omega
          subst hj'
          simp only [Int.cast_ofNat_Int]
          have hre := hide (show r = r3 ++ (nums x).flatMap uintL by rw [hr.out]; rfl)
          have hx2 := hst.boxed hx9 hne8
          have hst2 := (hst8.trans (Step.of_below hb9)).trans hst
          clear hr hbn2 hst b9 hx9 hne9 ho9
          have B2 := boxed hx2.1
          have l2 : Later wr wr := Later.refl
          go_upto_region 12 with fail
          refine wp_name ?_
          intro wa hwa
          have la := later_name' hwa (inferInstance : Later wr _)
          have ba : wa.heap[wr.heap.size]? = some (.cells ((flags x).map Value.bool).toArray 4 (0, 0)) := (by rw [← hwa]; simp only [heap_alloc_if, World.size_alloc]; repeat (first | rw [if_pos trivial] | rw [if_neg (by omega)] | rw [if_pos (by omega)]); try rfl)
          have hba : Below wr.heap.size wr wa := below_of
          have hza := hba.size
          have hoa := ho'.later wa
          have hnea : (Value.slice A' r.length c').ownBlock ≠ some wr.heap.size := fun e => absurd (World.ownsRow.lt ho' _ e).2 (by omega)
          have hraz := hide (show r = r ++ ((flags x).take 0).flatMap boolL by simp)
          have hb0a : Below w.heap.size w wa := hb2.trans (hba.mono hz2)
          clear hwa B2
          go_loopw [3, 66] (fun v iv wb => ∃ (j : Nat) (rb : List Int) (Ab : Option Addr) (cb : Nat), j ≤ 3 ∧ v = .slice Ab rb.length cb ∧ iv = .int .i64 j ∧ Hid (rb = r ++ ((flags x).take j).flatMap boolL) ∧ Own U8.cells 1 5 w.heap.size wb (.slice Ab rb.length cb) rb ∧ Step wa wb (.slice A' r.length c') (.slice Ab rb.length cb) ∧ Below w.heap.size w wb) (fun _ iv _ => 3 - (intOf iv).toNat)
          case atStart => exact ⟨0, r, A', c', by omega, rfl, rfl, hraz, hoa, Step.refl, hb0a⟩
          case round =>
            obtain ⟨j, rb, Ab, cb, hj, rfl, rfl, hrb, hob, hstb, hbb⟩ := hrel
            have hbnb := (hstb.boxed ba hnea)
            have hzb := hbb.size
            by_cases hj3 : j < 3
            · obtain ⟨n, hn⟩ : ∃ n, (flags x)[j]? = some n := ⟨_, List.getElem?_eq_getElem (show j < (flags x).length from hj3)⟩
              have hcell := map_cell hbnb.1 rfl hn
              have hT3 := hide (flat_snoc (f := boolL) hn)
              have hrbl : rb.length ≤ 300093 := by
                rw [hrb.out, List.length_append]
                have h1 := take_flat_len (f := boolL) (l := flags x) j
                have h2 : ((flags x).flatMap boolL).length = 3 := rfl
                omega
              have hj3' : (j : Int) < 3 := by omega
              clear hn
              go_wp2_with (go_at_call 56; refine (appendBool_q n (l := rb) hob (by omega) hzb).mono ?_; rintro r' w4 ⟨r4, A4, c4, hr4, rfl, ho4, hb4, hs4⟩)
              go_roundw
              case rel => exact ⟨j + 1, r4, A4, c4, by omega, rfl, by go_num, hide (by rw [hr4.out, hrb.out, hT3.out, List.append_assoc]), ho4, hstb.trans hs4, hbb.trans hb4⟩
              case measure => simp [intOf]; omega
            · have hj' : j = 3 := by omega
              subst hj'
              have hrbe := hide (show rb = q ++ encE x by rw [hrb.out, hre.out, hr3e.out]; simp [encE, flags])
              have hstz := (hst2.trans (Step.of_below hba)).trans hstb
              clear hrb hbnb
              go_wp2_with fail
              go_roundw
              case rel =>
                obtain ⟨hoqz, hapz⟩ := hstz.own hoq hap
                exact ⟨k + 1, rb, Ab, cb, by omega, rfl, by go_num, hide (by rw [hrbe.out, hq.out, hT2.out, List.append_assoc]), hob, hoqz, hapz, hbb⟩
              case measure => simp [intOf]; omega
    · have hk' : k = q0.length := by omega
      subst hk'
      rw [List.take_length] at hq
      have hqe := hide (show q = encS q0 by rw [hq.out, ← hq0.out.1.length_eq]; rfl)
      go_wp2_with fail
      go_ret
      exact ⟨q0, q, A, c, hide ⟨hq0.out.1, hq0.out.2, hqe.out⟩, rfl, (ho.at_ U8.enc).2.1, ho.cap_le, (ho.at_ U8.enc).2.2, hbr⟩
end Go.Proofs.Ytgddapgdeaeggaa

namespace Go.Proofs.Ytgddapgdeaeggaa
open Go.RowKit
abbrev St := List Int × Int
theorem RD.below {wb : World} {g : Nat} {w w' : World} {st : St} (h : RD wb g w st) (hb : Below w.heap.size w w') : RD wb g w' st := by
  obtain ⟨A, c, h1, h2, h3, h4⟩ := h.s
  exact ⟨h.lw.trans (hb.mono h.lw.size), h.gw, ⟨A, c, h1, h2, h3, (hb.block g (blk_lt h4)).trans h4⟩, h.by_⟩
theorem RD.only {wb : World} {g : Nat} {w w' : World} {st : St} {s : Nat → Prop} (h : RD wb g w st) (ho : Only s w w') (hs : ∀ k, s k → wb.heap.size ≤ k ∧ k ≠ g) : RD wb g w' st := by
  obtain ⟨A, c, h1, h2, h3, h4⟩ := h.s
  exact ⟨h.lw.trans (ho.below (fun k hk => (hs k hk).1) h.lw.size), h.gw, ⟨A, c, h1, h2, h3, ho.boxed h4 (fun e => (hs g e).2 rfl)⟩, h.by_⟩
def toI (x : Int) : Int := wrap64 x
def setN (k : Nat) (e : StubE) (x : Int) : StubE := match k with | 0 => { e with clas := x } | 1 => { e with lastUse := x } | 2 => { e with distance := x } | 3 => { e with lockMachine := x } | _ => { e with lockSerial := x }
def offN (k : Nat) : Nat := match k with | 0 => 4 | 1 => 5 | 2 => 6 | 3 => 10 | _ => 11
def setF (k : Nat) (e : StubE) (x : Bool) : StubE := match k with | 0 => { e with touched := x } | 1 => { e with weak := x } | _ => { e with dead := x }
def offF (k : Nat) : Nat := match k with | 0 => 7 | 1 => 8 | _ => 9
theorem setN_arr (k : Nat) (e : StubE) (x : Int) : e.arr.setIfInBounds (offN k) (.int .i64 x) = (setN k e x).arr := by
  unfold offN setN; split <;> rfl
theorem setF_arr (k : Nat) (e : StubE) (x : Bool) : e.arr.setIfInBounds (offF k) (.bool x) = (setF k e x).arr := by
  unfold offF setF; split <;> rfl
theorem offN_get (k : Nat) (e : StubE) : ∃ v, e.arr[offN k]? = some v := by
  unfold offN; split <;> exact ⟨_, rfl⟩
theorem offF_get (k : Nat) (e : StubE) : ∃ v, e.arr[offF k]? = some v := by
  unfold offF; split <;> exact ⟨_, rfl⟩
def rdNs : Nat → StubE × St → StubE × St
  | 0, s => s
  | k + 1, s => (setN k (rdNs k s).1 (toI (rdU (rdNs k s).2).1), (rdU (rdNs k s).2).2)
def rdFs : Nat → StubE × St → StubE × St
  | 0, s => s
  | k + 1, s => (setF k (rdFs k s).1 (rdB (rdFs k s).2).1, (rdB (rdFs k s).2).2)
def rdE0 (st : St) : StubE × St := (⟨toI (rdU st).1, (rdU (rdU st).2).1, (rdI (rdU (rdU st).2).2).1.1, (rdI (rdU (rdU st).2).2).1.2, 0, 0, 0, false, false, false, 0, 0⟩, (rdI (rdU (rdU st).2).2).2)
def rdEnt (st : St) : StubE × St := rdFs 3 (rdNs 5 (rdE0 st))
theorem heap_set12r {u w' : World} {g : Nat} {y : StubE} (h : u.heap[g]? = some (.cells zeroE.arr 37 (0, 0))) (e : u.setCells g 0 y.cells = w') : Boxed w' g y.arr 37 := by
  have h12 := blk_set (blk_set (blk_set (blk_set (blk_set (blk_set (blk_set (blk_set (blk_set (blk_set (blk_set (blk_set h 0 (.int .i64 y.owner)) 1 (.int .u64 y.number)) 2 (.int .i64 y.iDMachine)) 3 (.int .i64 y.iDSerial)) 4 (.int .i64 y.clas)) 5 (.int .i64 y.lastUse)) 6 (.int .i64 y.distance)) 7 (.bool y.touched)) 8 (.bool y.weak)) 9 (.bool y.dead)) 10 (.int .i64 y.lockMachine)) 11 (.int .i64 y.lockSerial)
  have ea : ∀ v0 v1 v2 v3 v4 v5 v6 v7 v8 v9 v10 v11 : Value, ((((((((((((zeroE.arr.setIfInBounds 0 v0).setIfInBounds 1 v1).setIfInBounds 2 v2).setIfInBounds 3 v3).setIfInBounds 4 v4).setIfInBounds 5 v5).setIfInBounds 6 v6).setIfInBounds 7 v7).setIfInBounds 8 v8).setIfInBounds 9 v9).setIfInBounds 10 v10).setIfInBounds 11 v11) = #[v0, v1, v2, v3, v4, v5, v6, v7, v8, v9, v10, v11] := fun _ _ _ _ _ _ _ _ _ _ _ _ => by simp [StubE.arr]
  rw [ea] at h12
  refine boxed ?_
  rw [← e]
  simp only [StubE.cells, World.setCells, Nat.zero_add, Nat.reduceAdd]
  exact h12
theorem bodyPost_name {P : Program} {f : Func} {Q : Ending → World → Prop} {e : Exit} {a : Act} {W : World} (h : ∀ w0, W = w0 → bodyPost P f Q e a w0) : bodyPost P f Q e a W := h W rfl
set_option maxRecDepth 100000 in
set_option maxHeartbeats 8000000 in
theorem read_any (wb : World) (g : Nat) (st : St) (w : World) (R : RD wb g w st) : Calls Try.prog 51 #[.pointer (some ⟨g, 0, none⟩)] w (RPost (rdEnt st).1.v wb g (rdEnt st).2 w) := by
  obtain ⟨A0, c0, hA0, hlc0, hcm0, hg0⟩ := R.s
  have hgl := blk_lt hg0
  have hgw := R.gw
  have lw : Later wb w := ⟨R.lw⟩
  have hws := R.lw.size
  have HU := uint_any wb g st
  obtain ⟨⟨x1, s1⟩, h1⟩ : ∃ u, rdU st = u := ⟨_, rfl⟩
  have HV := uint_any wb g s1
  obtain ⟨⟨x2, s2⟩, h2⟩ : ∃ u, rdU s1 = u := ⟨_, rfl⟩
  have HI := id_any wb g s2
  obtain ⟨⟨⟨x3, x4⟩, s3⟩, h3⟩ : ∃ u, rdI s2 = u := ⟨_, rfl⟩
  rw [h1] at HU
  rw [h2] at HV
  rw [h3] at HI
  have hE0 := hide (show rdE0 st = (⟨toI x1, x2, x3, x4, 0, 0, 0, false, false, false, 0, 0⟩, s3) by simp [rdE0, h1, h2, h3])
  clear h1 h2 h3
  go_enter Try.func51, Try.ntmps51
  go_upto_region 1 with fail
  refine wp_name ?_
  intro w1 hw1
  have l1 := later_name' hw1 (inferInstance : Later w _)
  have hb1 : w1.heap[w.heap.size]? = some (.cells zeroE.arr 37 (0, 0)) := (by rw [← hw1]; simp only [heap_alloc_if, World.size_alloc]; repeat (first | rw [if_pos trivial] | rw [if_neg (by omega)] | rw [if_pos (by omega)]); try rfl)
  have hbel : Below w.heap.size w w1 := below_of
  clear hw1
  have R1 := R.below hbel
  go_wp2_with (go_at_call 70; refine (HU _ R1).mono ?_)
  intro r w2 h2
  obtain ⟨rfl, R2, on2⟩ := h2
  go_wp2_with (go_at_call 70; refine (HV _ R2).mono ?_)
  intro r w3 h3
  obtain ⟨rfl, R3, on3⟩ := h3
  go_wp2_with (go_at_call 73; refine (HI _ R3).mono ?_)
  intro r w4 h4
  obtain ⟨rfl, R4, on4⟩ := h4
  have on24 := (on2.trans on3).trans on4
  have hb4 := on24.boxed hb1 (by omega)
  have hz4 : w.heap.size < w4.heap.size := blk_lt hb4
  have l4 : Later w4 w4 := Later.refl
  go_upto_region 2 with fail
  refine wp_name ?_
  intro w5 hw5
  have l5 := later_name' hw5 (inferInstance : Later w4 _)
  have hx5 : w5.heap[w4.heap.size]? = some (.cells (rdE0 st).1.arr 37 (0, 0)) := by rw [hE0.out]; exact (by rw [← hw5]; simp only [heap_alloc_if, World.size_alloc]; repeat (first | rw [if_pos trivial] | rw [if_neg (by omega)] | rw [if_pos (by omega)]); try rfl)
  have hb45 : Below w4.heap.size w4 w5 := below_of
  have hb5 := (hb45.block _ (blk_lt hb4)).trans hb4
  have R5 := R4.below hb45
  rw [show s3 = (rdE0 st).2 by rw [hE0.out]] at R5
  have hon5 : Only (fun k => k = g) w w5 := (((Only.of_below hbel).trans on24).trans (Only.of_below hb45))
  obtain ⟨E0, hE⟩ : ∃ E0, E0 = rdE0 st := ⟨_, rfl⟩
  rw [← hE] at R5 hx5
  have hEnt := hide (show rdEnt st = rdFs 3 (rdNs 5 E0) by rw [hE]; rfl)
  rw [hEnt.out]
  clear hw5 hE hE0 HU HV HI R1 R2 R3 R4 on2 on3 on4 on24
  obtain ⟨bx, hbx⟩ : ∃ bx, bx = w4.heap.size := ⟨_, rfl⟩
  rw [← hbx] at hx5 ⊢
  have hbg : g ≠ bx := by omega
  go_upto_region 3 with fail
  refine wp_name ?_
  intro w6 hw6
  have l6 := later_name' hw6 (inferInstance : Later w5 _)
  have hp6 : w6.heap[w5.heap.size]? = some (.cells (([0, 1, 2, 3, 4] : List Nat).map fun k => Value.pointer (some ⟨bx, offN k, none⟩)).toArray 111 (0, 0)) := by rw [hbx]; exact (by rw [← hw6]; simp only [heap_alloc_if, World.size_alloc]; repeat (first | rw [if_pos trivial] | rw [if_neg (by omega)] | rw [if_pos (by omega)]); try rfl)
  have hb56 : Below w5.heap.size w5 w6 := below_of
  have hb6 := (hb56.block _ (blk_lt hb5)).trans hb5
  have hx6 := (hb56.block _ (blk_lt hx5)).trans hx5
  have R6 := R5.below hb56
  have hon6 : Only (fun k => k = g) w w6 := hon5.trans (Only.of_below hb56)
  have hz5 : bx < w5.heap.size := blk_lt hx5
  have hz6 : w5.heap.size < w6.heap.size := blk_lt hp6
  have hwbx : w.heap.size < bx := by rw [hbx]; exact hz4
  clear hw6 hx5 hb5 R5 hon5 hbx l1 l4 l5
  rw [← show (rdNs 0 E0).1 = E0.1 from rfl] at hx6
  rw [← show (rdNs 0 E0).2 = E0.2 from rfl] at R6
  go_loopw [25] (fun iv wr => ∃ (j : Nat), j ≤ 5 ∧ iv = .int .i64 j ∧ RD wb g wr (rdNs j E0).2 ∧ wr.heap[bx]? = some (.cells (rdNs j E0).1.arr 37 (0, 0)) ∧ Only (fun k => k = g ∨ k = bx) w6 wr) (fun iv _ => 5 - (intOf iv).toNat)
  case atStart => exact ⟨0, by omega, rfl, R6, hx6, Only.refl⟩
  case round =>
    clear R6 hx6
    obtain ⟨j, hj, rfl, Rr, hxr, honr⟩ := hrel
    have hpr := honr.boxed hp6 (by omega)
    have hbr := honr.boxed hb6 (by omega)
    have lr : Later wr wr := Later.refl
    by_cases hj5 : j < 5
    · have hcell := map_cell hpr rfl (show ([0, 1, 2, 3, 4] : List Nat)[j]? = some j by
        have : j = 0 ∨ j = 1 ∨ j = 2 ∨ j = 3 ∨ j = 4 := by omega
        rcases this with rfl | rfl | rfl | rfl | rfl <;> rfl)
      have hj5' : (j : Int) < 5 := by omega
      have HU := uint_any wb g (rdNs j E0).2
      obtain ⟨v0, hv0⟩ := offN_get j (rdNs j E0).1
      obtain ⟨⟨n, sn⟩, hn⟩ : ∃ u, rdU (rdNs j E0).2 = u := ⟨_, rfl⟩
      have hnx := hide (show rdNs (j + 1) E0 = (setN j (rdNs j E0).1 (toI n), sn) by simp [rdNs, hn])
      have hsa := hide (setN_arr j (rdNs j E0).1 (toI n))
      obtain ⟨off, hoff⟩ : ∃ off, off = offN j := ⟨_, rfl⟩
      obtain ⟨E, hE⟩ : ∃ E, E = rdNs j E0 := ⟨_, rfl⟩
      rw [← hE] at HU Rr hxr hv0 hnx hsa hn
      rw [hn] at HU
      rw [← hoff] at hcell hv0 hsa
      clear hn hE hoff
      go_upto_region 5 with fail
      go_wp2_with (go_at_call 70; refine (HU _ Rr).mono ?_)
      intro r w7 h7
      obtain ⟨rfl, R7, on7⟩ := h7
      have hx7 := on7.boxed hxr (by omega)
      have BX := boxed hx7
      have hst : ∀ u [Later w7 u], u.cell? ⟨bx, off, none⟩ = some v0 := fun u i => ((BX u).2 off).1.trans hv0
      have hfr : ∀ u [Later w7 u], u.frozen? ⟨bx, off, none⟩ = false := fun u i => ((BX u).2 off).2
      have l7 : Later w7 w7 := Later.refl
      have onx : Only (fun k => k = g ∨ k = bx) w6 (w7.setCell ⟨bx, off, none⟩ (.int .i64 (toI n))) := Only.setCell (honr.trans (on7.mono fun k _ h => .inl h)) (.inl (.inr rfl)) _
      go_wp2_with fail
      go_roundw
      case rel =>
        refine ⟨j + 1, by omega, by go_num, ?_, ?_, onx⟩
        · rw [hnx.out]
          exact R7.only (Only.setCell (s := fun k => k = bx) (p := ⟨bx, off, none⟩) Only.refl (.inl rfl) _) (fun k hk => ⟨by omega, by omega⟩)
        · rw [hnx.out, ← hsa.out]
          exact blk_set hx7 off _
      case measure => simp [intOf]; omega
    · have hj' : j = 5 := by omega
      subst hj'
      simp only [Int.cast_ofNat_Int]
      obtain ⟨E1, hE⟩ : ∃ E1, E1 = rdNs 5 E0 := ⟨_, rfl⟩
      rw [← hE] at Rr hxr
      have hE1 := hide hE
      clear hE hpr hp6
      have hzr := honr.size
      have honw : Only (fun k => k = g) w wr := hon6.trans' honr (fun k hk h => by rcases h with h | h; exact h; omega)
      have hbr0 := hbr
      clear hb6 hon6 honr hbr
      have BX := boxed hxr
      have lr2 : Later wr wr := Later.refl
      have hrz := hide (rfl : wr = wr)
      have hgr : g < wr.heap.size := by obtain ⟨_, _, _, _, _, h⟩ := Rr.s; exact blk_lt h
      go_upto_region 8 with fail
      refine wp_name ?_
      intro wa hwa
      have hpa : wa.heap[wr.heap.size]? = some (.cells (([0, 1, 2] : List Nat).map fun k => Value.pointer (some ⟨bx, offF k, none⟩)).toArray 113 (0, 0)) := (by rw [← hwa]; simp only [heap_alloc_if, World.size_alloc]; repeat (first | rw [if_pos trivial] | rw [if_neg (by omega)] | rw [if_pos (by omega)]); try rfl)
      have la := later_name' hwa (inferInstance : Later wr _)
      have hbelA : Below wr.heap.size wr wa := below_of
      have hba := (hbelA.block _ (blk_lt hbr0)).trans hbr0
      have hxa := (hbelA.block _ (blk_lt hxr)).trans hxr
      have Ra := Rr.below hbelA
      have hona : Only (fun k => k = g) w wa := honw.trans (Only.of_below hbelA)
      have hza : wr.heap.size < wa.heap.size := blk_lt hpa
      have hbxr : bx < wr.heap.size := blk_lt hxr
      obtain ⟨pr, hpr⟩ : ∃ pr, pr = wr.heap.size := ⟨_, rfl⟩
      rw [← hpr] at hpa hza hbxr hgr
      clear hwa hxr Rr honw hbr0 BX
      rw [← hpr]
      clear hpr
      rw [← show (rdFs 0 E1).1 = E1.1 from rfl] at hxa
      rw [← show (rdFs 0 E1).2 = E1.2 from rfl] at Ra
      go_loopw [40] (fun iv wr => ∃ (j : Nat), j ≤ 3 ∧ iv = .int .i64 j ∧ RD wb g wr (rdFs j E1).2 ∧ wr.heap[bx]? = some (.cells (rdFs j E1).1.arr 37 (0, 0)) ∧ Only (fun k => k = g ∨ k = bx) wa wr) (fun iv _ => 3 - (intOf iv).toNat)
      case atStart => exact ⟨0, by omega, rfl, Ra, hxa, Only.refl⟩
      case round =>
        clear Ra hxa
        obtain ⟨j, hj, rfl, Rr, hxr, honr⟩ := hrel
        have hpr := honr.boxed hpa (by omega)
        have hbr := honr.boxed hba (by omega)
        have lr : Later wr wr := Later.refl
        by_cases hj5 : j < 3
        · have hcell := map_cell hpr rfl (show ([0, 1, 2] : List Nat)[j]? = some j by
            have : j = 0 ∨ j = 1 ∨ j = 2 := by omega
            rcases this with rfl | rfl | rfl <;> rfl)
          have hj5' : (j : Int) < 3 := by omega
          have HU := bool_any wb g (rdFs j E1).2
          obtain ⟨v0, hv0⟩ := offF_get j (rdFs j E1).1
          obtain ⟨⟨n, sn⟩, hn⟩ : ∃ u, rdB (rdFs j E1).2 = u := ⟨_, rfl⟩
          have hnx := hide (show rdFs (j + 1) E1 = (setF j (rdFs j E1).1 (n), sn) by simp [rdFs, hn])
          have hsa := hide (setF_arr j (rdFs j E1).1 (n))
          obtain ⟨off, hoff⟩ : ∃ off, off = offF j := ⟨_, rfl⟩
          obtain ⟨E, hE⟩ : ∃ E, E = rdFs j E1 := ⟨_, rfl⟩
          rw [← hE] at HU Rr hxr hv0 hnx hsa hn
          rw [hn] at HU
          rw [← hoff] at hcell hv0 hsa
          clear hn hE hoff
          go_upto_region 10 with fail
          go_wp2_with (go_at_call 74; refine (HU _ Rr).mono ?_)
          intro r w7 h7
          obtain ⟨rfl, R7, on7⟩ := h7
          have hx7 := on7.boxed hxr (by omega)
          have BX := boxed hx7
          have hst : ∀ u [Later w7 u], u.cell? ⟨bx, off, none⟩ = some v0 := fun u i => ((BX u).2 off).1.trans hv0
          have hfr : ∀ u [Later w7 u], u.frozen? ⟨bx, off, none⟩ = false := fun u i => ((BX u).2 off).2
          have l7 : Later w7 w7 := Later.refl
          have onx : Only (fun k => k = g ∨ k = bx) wa (w7.setCell ⟨bx, off, none⟩ (.bool n)) := Only.setCell (honr.trans (on7.mono fun k _ h => .inl h)) (.inl (.inr rfl)) _
          go_wp2_with fail
          go_roundw
          case rel =>
            refine ⟨j + 1, by omega, by go_num, ?_, ?_, onx⟩
            · rw [hnx.out]
              exact R7.only (Only.setCell (s := fun k => k = bx) (p := ⟨bx, off, none⟩) Only.refl (.inl rfl) _) (fun k hk => ⟨by omega, by omega⟩)
            · rw [hnx.out, ← hsa.out]
              exact blk_set hx7 off _
          case measure => simp [intOf]; omega
        · have hj' : j = 3 := by omega
          subst hj'
          simp only [Int.cast_ofNat_Int]
          obtain ⟨E2, hE⟩ : ∃ E2, E2 = rdFs 3 E1 := ⟨_, rfl⟩
          rw [← hE] at Rr hxr
          have hE2 := hide hE
          clear hE hpr hpa
          have hzr := honr.size
          have honw : Only (fun k => k = g) w wr := hona.trans' honr (fun k hk h => by rcases h with h | h; exact h; omega)
          have hb0 := boxed hbr
          have BX := boxed hxr
          have lr : Later wr wr := Later.refl
          go_wp2_with fail
          refine bodyPost_name ?_
          intro wz hwz
          have hset : wr.setCells w.heap.size 0 E2.1.cells = wz := hwz
          have hgz := setCells_grownBy w.heap.size E2.1.cells 0 wr
          have BZ := heap_set12r hbr hset
          rw [hset] at hgz
          have c0 := ((BZ wz).2 0).1
          have c1 := ((BZ wz).2 1).1
          have c2 := ((BZ wz).2 2).1
          have c3 := ((BZ wz).2 3).1
          have c4 := ((BZ wz).2 4).1
          have c5 := ((BZ wz).2 5).1
          have c6 := ((BZ wz).2 6).1
          have c7 := ((BZ wz).2 7).1
          have c8 := ((BZ wz).2 8).1
          have c9 := ((BZ wz).2 9).1
          have c10 := ((BZ wz).2 10).1
          have c11 := ((BZ wz).2 11).1
          simp [StubE.arr] at c0 c1 c2 c3 c4 c5 c6 c7 c8 c9 c10 c11
          clear hwz hset
          refine bodyPost_ret (v := E2.1.v) (by simp [results, Try.results51, go_sem, c0, c1, c2, c3, c4, c5, c6, c7, c8, c9, c10, c11]) rfl ?_
          have hfin : rdEnt st = E2 := by rw [hEnt.out, ← hE1.out, ← hE2.out]
          have onz : Only (fun k => some k = some w.heap.size) wr wz := by
            obtain ⟨a1, a2, a3, a4, a5⟩ := hgz
            exact ⟨a1, a2, a3, a4, fun k hk hn => a5 k hk (fun h => hn (by first | exact h | exact h.symm))⟩
          have onf : Only (fun k => k = g) w wz := honw.trans' onz (fun k hk h => by injection h with h; omega)
          rw [hfin]
          exact ⟨rfl, Rr.only onz (fun k hk => by injection hk with hk; exact ⟨by omega, by omega⟩), onf⟩
end Go.Proofs.Ytgddapgdeaeggaa

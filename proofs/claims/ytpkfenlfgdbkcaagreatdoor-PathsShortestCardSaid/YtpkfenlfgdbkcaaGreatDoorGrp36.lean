/-
  Small texts of this seat, put into one. Conditions stand in each theorem.
-/
import Derived.Test.YtpkfenlfgdbkcaaGreatDoorP59Roots
import Derived.Shelf.SlicesQ.Reverse
import Derived.Ground.SlgnProg
import Derived.Test.YtpkfenlfgdbkcaaGreatDoorProg
import Derived.Test.YtpkfenlfgdbkcaaGreatDoorGrp33
import Derived.Test.YtpkfenlfgdbkcaaGreatDoorGrp31
import Derived.Test.YtpkfenlfgdbkcaaGreatDoorGrp30
set_option linter.unusedSimpArgs false
set_option linter.unusedVariables false
namespace Go.Proofs.YtpkfenlfgdbkcaaGreatDoor
open Go.RowKit
attribute [local go_sem] Oper.semAt_some Instr.makeFunc
attribute [local simp] heap_drew
attribute [local go_sem ↓] run_eql_id run_neq_id run_neq_ValE run_eql_ValE
/-- The first field that refers to an identity. -/
def refV (x : IDE) : ValE := ⟨2, 0, x.machine, x.serial⟩
def fieldN (n : NodeC) (x : IDE) : Int := if n.kind = 2 then -1 else idxOf (fun y => decide (y = refV x)) n.fields
set_option maxRecDepth 100000 in
set_option maxHeartbeats 2000000 in
theorem indexV_any (A : Option Addr) (c : Nat) (xs : List ValE) (x : ValE) (w : World) (hs : SlAt ValE.cells 4 w A xs) (hl : xs.length ≤ 1000000000) : Calls Tryz.prog 63 #[.slice A xs.length c, x.v] w fun r w' => r = .returned (.int .i64 (idxOf (fun y => decide (y = x)) xs)) ∧ Below w.heap.size w w' := by
  have HS : ∀ u [Later w u], SlAt ValE.cells 4 u A xs := fun u i => hs.below i.below
  have hl' : xs.length ≤ 9223372036854775807 := by omega
  go_enter Tryz.func63, Tryz.ntmps63
  go_upto_region 1 with fail
  refine wp_name ?_
  intro w0 hw0
  obtain ⟨B0, l0⟩ := box1 hw0
  clear hw0
  go_wp2_with fail
  go_loopw [5, 8] (fun _ iv wr => ∃ k : Nat, k ≤ xs.length ∧ iv = .int .i64 k ∧ NoneTo (fun y => decide (y = x)) xs k ∧ Below w0.heap.size w0 wr) (fun _ iv _ => xs.length - (intOf iv).toNat)
  case atStart => exact ⟨0, by omega, rfl, NoneTo.zero, Below.refl _ _⟩
  case round =>
    obtain ⟨k, hk, rfl, hno, hbr⟩ := hrel
    have lr := later hbr
    have Hno := hide hno
    clear hno
    by_cases hlt : k < xs.length
    · obtain ⟨b1, o1, y, rfl, hy, C1⟩ := ValE.get (HS wr) hlt
      have Hy := hide hy
      clear hy
      have hki : (k : Int) < (xs.length : Int) := by omega
      cases hp : ValE.beq x y
      · have hne := hide (show decide (y = x) = false from decide_eq_false fun e => by rw [ValE.beq_iff.2 e.symm] at hp; cases hp)
        go_upto_region 4 with fail
        (refine wp_region_after (by kernel_rfl) (by kernel_rfl) ?_
         repeat (any_goals (first | go_big_quiet_skip | (go_big_quiet_want; go_big_quiet_op; first | go_big_quiet_on | go_big_quiet_call (fail)) | quiet_step (fail) | (refine wpQuiet_step (fun K hK => ?_); go_simp; split <;> (refine hK _ ?_; clear hK K))))
         all_goals (refine wpQuiet_nil ?_; intro _ hw'; obtain ⟨u', hw''⟩ := hw'; subst hw''; obtain ⟨wd, hbd⟩ := u'; simp only [After.val_mk]))
        have ld := later hbd
        go_wp2_with fail
        go_roundw
        case rel => exact ⟨k + 1, by omega, by go_num, Hno.out.succ Hy.out hne.out, below_of⟩
        case measure => simp [intOf]; omega
      · have he := hide (idxOf_hit Hy.out (show decide (y = x) = true from decide_eq_true (ValE.beq_iff.1 hp).symm) Hno.out)
        go_upto_region 4 with fail
        (refine wp_region_after (by kernel_rfl) (by kernel_rfl) ?_
         repeat (any_goals (first | go_big_quiet_skip | (go_big_quiet_want; go_big_quiet_op; first | go_big_quiet_on | go_big_quiet_call (fail)) | quiet_step (fail) | (refine wpQuiet_step (fun K hK => ?_); go_simp; split <;> (refine hK _ ?_; clear hK K))))
         all_goals (refine wpQuiet_nil ?_; intro _ hw'; obtain ⟨u', hw''⟩ := hw'; subst hw''; obtain ⟨wd, hbd⟩ := u'; simp only [After.val_mk]))
        have ld := later hbd
        go_wp2_with fail
        go_ret
        exact ⟨ret_int he.out.symm, below_of⟩
    · have hk' : k = xs.length := by omega
      subst hk'
      have he := hide (idxOf_miss Hno.out)
      go_wp2_with fail
      go_ret
      exact ⟨ret_int he.out.symm, below_of⟩
set_option maxRecDepth 100000 in
set_option maxHeartbeats 2000000 in
theorem field_any (n : NodeE) (x : IDE) (w : World) (hf : SlAt ValE.cells 4 w n.A n.fields) (hl : n.fields.length ≤ 1000000000) : Calls Tryz.prog 33 #[n.v, x.v] w fun r w' => r = .returned (.int .i64 (fieldN n.con x)) ∧ Below w.heap.size w w' := by
  have HI : ∀ u [Later w u], Calls Tryz.prog 63 #[.slice n.A n.fields.length n.c, (refV x).v] u fun r w' => r = .returned (.int .i64 (idxOf (fun y => decide (y = refV x)) n.fields)) ∧ Below u.heap.size u w' := fun u i => indexV_any n.A n.c n.fields (refV x) u (hf.below i.below) hl
  obtain ⟨R, hR⟩ : ∃ R, R = idxOf (fun y => decide (y = refV x)) n.fields := ⟨_, rfl⟩
  rw [← hR] at HI
  have HR := hide (show fieldN n.con x = if n.kind = 2 then -1 else R by rw [hR]; rfl)
  clear hR
  unfold refV at HI
  go_enter Tryz.func33, Tryz.ntmps33
  by_cases hk : n.kind = 2
  · have hr := hide (show fieldN n.con x = -1 by rw [HR.out, if_pos hk])
    go_wp2_with fail
    go_ret
    exact ⟨ret_int hr.out.symm, below_of⟩
  · have hr := hide (show fieldN n.con x = R by rw [HR.out, if_neg hk])
    go_wp2_with (go_at_call 63; refine (HI _).mono ?_; rintro r w1 ⟨rfl, hb1⟩; have l1 := later hb1)
    go_ret
    exact ⟨ret_int hr.out.symm, below_of⟩
set_option maxRecDepth 100000 in
set_option maxHeartbeats 4000000 in
theorem next_any (n : NodeE) (w : World) (hf : SlAt ValE.cells 4 w n.A n.fields) (hl : n.fields.length ≤ 1000000) : Calls Tryz.prog 53 #[n.v] w (SetIPost (refsOf n.con) w) := by
  obtain ⟨m1, m2, mk, mc, mA, mp, mf⟩ := n
  dsimp only at hf hl
  have HF : ∀ u [Later w u], SlAt ValE.cells 4 u mA mf := fun u i => hf.below i.below
  obtain ⟨NK, HNK⟩ : ∃ NK : Nat → List IDE, NK = fun k => if mk = 2 then [] else refsTo mf k := ⟨_, rfl⟩
  have HNK := hide HNK
  have hl' : mf.length ≤ 9223372036854775807 := by omega
  go_enter Tryz.func53, Tryz.ntmps53
  go_upto_region 1 with fail
  refine wp_name ?_
  intro w0 hw0
  obtain ⟨B0, l0⟩ := box1 hw0
  have lw0 : Later w w0 := l0 w
  have l00 : Later w0 w0 := Later.refl
  clear hw0
  go_wp2_with fail
  go_loopw [3, 9] (fun ov iv wr => ∃ (k : Nat) (q : List IDE) (OA : Option Addr) (OC : Nat), k ≤ mf.length ∧ iv = .int .i64 k ∧ ov = .slice OA q.length OC ∧ Hid (q = NK k) ∧ Hid (q.length ≤ k) ∧ Own IDE.cells 2 24 w0.heap.size wr (.slice OA q.length OC) q ∧ Below w0.heap.size w0 wr) (fun _ iv _ => mf.length - (intOf iv).toNat)
  case atStart => exact ⟨0, [], none, 0, by omega, rfl, rfl, hide (by rw [HNK.out]; dsimp only; rw [refsTo_zero]; simp), hide (by simp), Own.nil, Below.refl _ _⟩
  case round =>
    obtain ⟨k, q, OA, OC, hk, rfl, rfl, hq, hqn, hown, hbr⟩ := hrel
    have lr := later hbr
    by_cases hlt : k < mf.length
    · obtain ⟨b1, o1, v, rfl, hv, C1⟩ := ValE.get (HF wr) hlt
      have hki : (k : Int) < (mf.length : Int) := by omega
      have hS := hide (refsTo_succ hv)
      clear hv
      by_cases hv2 : v.kind = 2
      · by_cases hk2 : mk = 2
        · have hq' := hide (show q = NK (k + 1) by rw [hq.out]; rw [HNK.out]; dsimp only; rw [if_pos hk2, if_pos hk2])
          go_wp2_with fail
          go_roundw
          case rel => exact ⟨k + 1, q, OA, OC, by omega, by go_num, rfl, hq', hide (by have := hqn.out; omega), hown.later _, below_of⟩
          case measure => simp [intOf]; omega
        · have hq' := hide (show q ++ [v.ref] = NK (k + 1) by rw [hq.out]; rw [HNK.out]; dsimp only; rw [if_neg hk2, hS.out, if_pos hv2, if_neg hk2])
          have hql : q.length ≤ 1000000 := by have := hqn.out; omega
          go_upto_region 6 with fail
          refine wp_name ?_
          intro w5 hw5
          obtain ⟨B5, l5⟩ := box1 hw5
          have l55 : Later w5 w5 := Later.refl
          have hb5 : Below wr.heap.size wr w5 := by rw [← hw5]; exact (by repeat (first | with_reducible exact Below.refl _ _ | (with_reducible refine Below.drew ?_) | (with_reducible refine below_drewN ?_ _) | (with_reducible refine Below.alloc ?_ ?_ _; rotate_left; (first | omega | (simp <;> omega))) | (with_reducible refine Below.setCell ?_ ?_ _; rotate_left; (first | omega | (simp <;> omega)))))
          clear hw5
          have hown5 := hown.below hb5
          have hz5 : w0.heap.size ≤ w5.heap.size := Nat.le_trans hbr.size hb5.size
          go_wp2_with (at_builtin; refine wpList_app1 rfl (.tmp 21) (.tmp 24) rfl IDE.enc idT v.ref rfl rfl rfl (hown5.later _) (by rfl) (by omega) (by unfold maxLen; omega) (Nat.le_trans hz5 (show Below w5.heap.size w5 _ from below_of).size) ?_; intro A' c' w6 ho hm hb hg hat; have hb6 : Below w0.heap.size w0 w6 := hbr.trans ((hb5.mono hbr.size).trans hb))
          go_roundw
          case rel => exact ⟨k + 1, q ++ [v.ref], A', c', by omega, by go_num, by rw [List.length_append]; rfl, hq', hide (by rw [List.length_append, List.length_singleton]; have := hqn.out; omega), by rw [List.length_append]; exact ho, hb6⟩
          case measure => simp [intOf]; omega
      · have hq' := hide (show q = NK (k + 1) by rw [hq.out]; rw [HNK.out]; dsimp only; rw [hS.out, if_neg hv2, List.append_nil])
        go_wp2_with fail
        go_roundw
        case rel => exact ⟨k + 1, q, OA, OC, by omega, by go_num, rfl, hq', hide (by have := hqn.out; omega), hown.later _, below_of⟩
        case measure => simp [intOf]; omega
    · have hk' : k = mf.length := by omega
      subst hk'
      have hq' := hide (show q = refsOf (NodeE.con ⟨m1, m2, mk, mc, mA, mp, mf⟩) by
        rw [hq.out]; rw [HNK.out]; dsimp only
        by_cases hk2 : mk = 2
        · rw [if_pos hk2]; unfold refsOf; rw [if_pos (show (NodeE.con ⟨m1, m2, mk, mc, mA, mp, mf⟩).kind = 2 from hk2)]
        · rw [if_neg hk2, ← refsTo_all (n := (NodeE.con ⟨m1, m2, mk, mc, mA, mp, mf⟩)) hk2]; rfl)
      have hql : q.length ≤ 1000000 := by have := hqn.out; omega
      have hs := (hown.at_ IDE.enc).2.2
      have HS : ∀ u [Later wr u], Calls Tryz.prog 45 #[.slice OA q.length OC] u (SetIPost q u) := fun u i => setI_any OA OC q u (hs.below i.below) (by omega)
      go_wp2_with (go_at_call 45; refine (HS _).mono ?_)
      rintro r w8 ⟨s8, SA, SC, hs8, rfl, hos, hb8⟩
      go_wp2_with fail
      go_ret
      have h0 := (lw0.below).size
      have hb08 : Below w0.heap.size w0 w8 := hbr.trans (hb8.mono hbr.size)
      have h1 := hbr.size
      exact ⟨s8, SA, SC, hide (by rw [hs8.out, hq'.out]), rfl, hos.mono (by omega), lw0.below.trans (hb08.mono h0)⟩
end Go.Proofs.YtpkfenlfgdbkcaaGreatDoor

namespace Go.Proofs
open Go.Shelf
def Tryz.revI_ren : Go.Shelf.Ren := ⟨fun | 35 => 54 | n => n, fun | 22 => 48 | 23 => 24 | 3 => 3 | 4 => 4 | 0 => 0 | n => n, fun | n => n⟩
theorem Tryz.revI : Go.Proofs.SlLaysE0.n35 Tryz.prog Tryz.revI_ren := {
  mixed := by kernel_rfl
  f35 := ⟨Tryz.f54.name, by decide, Tryz.func54.trans (congrArg some (by kernel_rfl))⟩
  t0 := Tryz.underlying0
  a0 := Tryz.isAgg0
  z0 := Tryz.sizeOf0
  v0 := Tryz.zeroValue0
  t3 := Tryz.underlying3
  a3 := Tryz.isAgg3
  z3 := Tryz.sizeOf3
  v3 := Tryz.zeroValue3
  t4 := Tryz.underlying4
  a4 := Tryz.isAgg4
  z4 := Tryz.sizeOf4
  v4 := Tryz.zeroValue4
  t22 := Tryz.underlying48
  a22 := Tryz.isAgg48
  z22 := Tryz.sizeOf48
  v22 := Tryz.zeroValue48 }
end Go.Proofs

namespace Go.Proofs.YtpkfenlfgdbkcaaGreatDoor
open Go.RowKit
set_option maxHeartbeats 1000000 in
/-- slices.Reverse over a slice that the call made itself (or nil): its list is reversed. -/
theorem reverse_any (A : Option Addr) (c : Nat) (l : List IDE) (base : Nat) (w : World) (hown : Own IDE.cells 2 24 base w (.slice A l.length c) l) (hl : l.length ≤ 1000000000000) (hbase : base ≤ w.heap.size) :
    Calls Tryz.prog 54 #[.slice A l.length c] w fun e w' => e = .returned (.tuple #[]) ∧ Own IDE.cells 2 24 base w' (.slice A l.length c) l.reverse ∧ Below base w w' ∧ w.grownBy w' (Value.slice A l.length c).ownBlock := by
  cases l with
  | nil =>
    refine (AnyQ.slices_Reverse_empty Tryz.revI A c w).mono ?_
    rintro e w' ⟨rfl, rfl⟩
    exact ⟨rfl, hown, Below.refl _ _, World.grownBy.refl _ _⟩
  | cons x0 l0 =>
    obtain ⟨l, hlx⟩ : ∃ l, l = x0 :: l0 := ⟨_, rfl⟩
    obtain ⟨g, rfl⟩ := hown.isSome (by simp)
    rw [← hlx] at hown hl ⊢
    refine (AnyQ.slices_Reverse Tryz.revI 2 (fun w => Tryz.isAgg24 w) (fun w => Tryz.sizeOf24 w) IDE.cells IDE.enc.len IDE.one g 0 c l.toArray w (hown.holdsK IDE.enc) (by simp; omega)).mono ?_
    rintro e w' ⟨rfl, n, hw⟩
    have hw' : w' = Go.Proofs.sortWorldK IDE.cells 2 w g 0 n l.toArray.reverse #[] := by
      rw [hw]; unfold Go.Proofs.sortWorldK; rw [Go.Sort.grow_empty]
    subst hw'
    have hsz : l.toArray.reverse.size = l.length := by simp
    have hg := hown.base_le
    have ho := hown.sortK IDE.enc (m := n) (os := #[]) hsz
    rw [show l.toArray.reverse.toList = l.reverse by simp] at ho
    exact ⟨rfl, ho, sortK_below hg hbase, sortK_grownBy⟩
end Go.Proofs.YtpkfenlfgdbkcaaGreatDoor

namespace Go.Proofs.YtpkfenlfgdbkcaaGreatDoor
abbrev BefM := IDE → Option IDE
abbrev PathM := IDE → Option (List IDE)
def visitB (G : List NodeC) (st : BefM × List IDE) (x from' : IDE) : BefM × List IDE := if (firstN G x).isSome = true ∧ (st.1 x).isSome = false then (mupd st.1 x from', st.2 ++ [x]) else st
def visitT (G : List NodeC) (p : List IDE) (st : PathM × List IDE) (y : IDE) : PathM × List IDE := if (firstN G y).isSome = true ∧ (st.1 y).isSome = false then (mupd st.1 y (p ++ [y]), st.2 ++ [y]) else st
/-- Where a node of the graph leads. -/
def succI (G : List NodeC) (x : IDE) : List IDE := setI (refsOf ((firstN G x).getD zeroC))
def nextsT (G : List NodeC) (st : PathM × List IDE) (x : IDE) : PathM × List IDE := (succI G x).foldl (visitT G ((st.1 x).getD [])) st
def startT (G : List NodeC) (R : List IDE) : PathM × List IDE := (setI R).foldl (visitT G []) (fun _ => none, [])
/-- The state when n nodes have been left. -/
def bfsT (G : List NodeC) (R : List IDE) : Nat → PathM × List IDE
  | 0 => startT G R
  | n + 1 => match (bfsT G R n).2[n]? with
    | some x => nextsT G (bfsT G R n) x
    | none => bfsT G R n
/-- The paths. -/
def pathsT (G : List NodeC) (R : List IDE) : PathM := (bfsT G R G.length).1
def searchL (G : List NodeC) (R : List IDE) (id : IDE) : List IDE := (pathsT G R id).getD []
/-! ### What one visit leaves -/
theorem visitT_cases (G : List NodeC) (p : List IDE) (st : PathM × List IDE) (y : IDE) : (visitT G p st y = st ∧ ((firstN G y).isSome = true → (st.1 y).isSome = true)) ∨ ((firstN G y).isSome = true ∧ st.1 y = none ∧ visitT G p st y = (mupd st.1 y (p ++ [y]), st.2 ++ [y])) := by
  unfold visitT
  by_cases h : (firstN G y).isSome = true ∧ (st.1 y).isSome = false
  · rw [if_pos h]
    have hn : st.1 y = none := by
      cases hs : st.1 y with
      | none => rfl
      | some v => have := h.2; rw [hs] at this; cases this
    exact .inr ⟨h.1, hn, rfl⟩
  · rw [if_neg h]
    refine .inl ⟨rfl, fun h1 => ?_⟩
    cases hs : (st.1 y).isSome with
    | true => rfl
    | false => exact absurd ⟨h1, hs⟩ h
/-- What every state is. -/
structure BfsOk (G : List NodeC) (st : PathM × List IDE) : Prop where
  nd : st.2.Nodup
  mem : ∀ y, y ∈ st.2 ↔ (st.1 y).isSome = true
  inG : ∀ y ∈ st.2, y ∈ ids G
theorem BfsOk.visit {G : List NodeC} {p : List IDE} {st : PathM × List IDE} {y : IDE} (h : BfsOk G st) : BfsOk G (visitT G p st y) := by
  rcases visitT_cases G p st y with ⟨e, -⟩ | ⟨h1, h2, e⟩
  · rw [e]; exact h
  · rw [e]
    have hy : y ∉ st.2 := fun hm => by have := (h.mem y).1 hm; rw [h2] at this; cases this
    refine ⟨List.nodup_append.2 ⟨h.nd, by simp, fun a ha b hb => ?_⟩, fun z => ?_, fun z hz => ?_⟩
    · rw [List.mem_singleton] at hb
      subst hb
      intro e; exact hy (e ▸ ha)
    · show z ∈ st.2 ++ [y] ↔ (mupd st.1 y (p ++ [y]) z).isSome = true
      unfold mupd
      rw [List.mem_append, List.mem_singleton, h.mem z]
      by_cases hz : z = y
      · rw [if_pos hz]; simp [hz]
      · rw [if_neg hz]; simp [hz]
    · rcases List.mem_append.1 hz with hz | hz
      · exact h.inG z hz
      · rw [List.mem_singleton] at hz; subst hz; exact firstN_ids.1 h1
theorem BfsOk.fold {G : List NodeC} {p : List IDE} : ∀ {ys : List IDE} {st : PathM × List IDE}, BfsOk G st → BfsOk G (ys.foldl (visitT G p) st)
  | [], _, h => h
  | _ :: ys, _, h => BfsOk.fold (ys := ys) h.visit
theorem bfs_ok (G : List NodeC) (R : List IDE) : ∀ n, BfsOk G (bfsT G R n)
  | 0 => BfsOk.fold ⟨List.nodup_nil, fun y => by simp, fun y hy => by cases hy⟩
  | n + 1 => by
    unfold bfsT
    split
    · exact BfsOk.fold (bfs_ok G R n)
    · exact bfs_ok G R n
theorem BfsOk.len {G : List NodeC} {st : PathM × List IDE} (h : BfsOk G st) : st.2.length ≤ G.length := by
  exact reach_len h.nd h.inG
/-! ### Later states -/
/-- A state behind another one. -/
structure Mono (a b : PathM × List IDE) : Prop where
  p : ∀ y l, a.1 y = some l → b.1 y = some l
  o : ∃ e, b.2 = a.2 ++ e
theorem Mono.refl {a : PathM × List IDE} : Mono a a := ⟨fun _ _ h => h, [], by simp⟩
theorem Mono.trans {a b c : PathM × List IDE} (h : Mono a b) (k : Mono b c) : Mono a c := by
  obtain ⟨e, he⟩ := h.o
  obtain ⟨f, hf⟩ := k.o
  exact ⟨fun y l hy => k.p y l (h.p y l hy), e ++ f, by rw [hf, he, List.append_assoc]⟩
theorem mono_visit {G : List NodeC} {p : List IDE} {st : PathM × List IDE} {y : IDE} : Mono st (visitT G p st y) := by
  rcases visitT_cases G p st y with ⟨e, -⟩ | ⟨h1, h2, e⟩
  · rw [e]; exact Mono.refl
  · rw [e]
    refine ⟨fun z l hz => ?_, [y], rfl⟩
    show mupd st.1 y (p ++ [y]) z = some l
    unfold mupd
    rw [if_neg (fun e => by rw [e, h2] at hz; cases hz)]
    exact hz
theorem mono_fold {G : List NodeC} {p : List IDE} : ∀ {ys : List IDE} {st : PathM × List IDE}, Mono st (ys.foldl (visitT G p) st)
  | [], _ => Mono.refl
  | _ :: ys, _ => mono_visit.trans (mono_fold (ys := ys))
theorem mono_bfs {G : List NodeC} {R : List IDE} : ∀ {d n : Nat}, Mono (bfsT G R n) (bfsT G R (n + d))
  | 0, n => Mono.refl
  | d + 1, n => by
    refine (mono_bfs (d := d) (n := n)).trans ?_
    rw [← Nat.add_assoc]
    show Mono _ (bfsT G R (n + d + 1))
    conv => rhs; unfold bfsT
    split
    · exact mono_fold
    · exact Mono.refl
theorem bfs_mono {G : List NodeC} {R : List IDE} {m n : Nat} (h : m ≤ n) : Mono (bfsT G R m) (bfsT G R n) := by
  have := mono_bfs (G := G) (R := R) (d := n - m) (n := m)
  rwa [Nat.add_sub_cancel' h] at this
/-- No node is left: the search is over. -/
theorem bfs_stop {G : List NodeC} {R : List IDE} {n : Nat} (h : (bfsT G R n).2.length ≤ n) : ∀ d, bfsT G R (n + d) = bfsT G R n
  | 0 => rfl
  | d + 1 => by
    have ih := bfs_stop h d
    rw [← Nat.add_assoc]
    show (match (bfsT G R (n + d)).2[n + d]? with | some x => nextsT G (bfsT G R (n + d)) x | none => bfsT G R (n + d)) = _
    rw [ih, List.getElem?_eq_none (by omega)]
theorem paths_stop {G : List NodeC} {R : List IDE} {n : Nat} (h : (bfsT G R n).2.length ≤ n) (hn : n ≤ G.length) : pathsT G R = (bfsT G R n).1 := by
  unfold pathsT
  have := bfs_stop h (G.length - n)
  rw [Nat.add_sub_cancel' hn] at this
  rw [this]
theorem paths_at {G : List NodeC} {R : List IDE} {n : Nat} {x : IDE} (h : (bfsT G R n).2[n]? = some x) : (bfsT G R n).1 x = pathsT G R x := by
  have hx := ((bfs_ok G R n).mem x).1 (List.mem_of_getElem? h)
  have hl := (List.getElem?_eq_some_iff.1 h).1
  have hn : n ≤ G.length := by have := (bfs_ok G R n).len; omega
  obtain ⟨l, hl⟩ := Option.isSome_iff_exists.1 hx
  rw [hl]
  exact ((bfs_mono (G := G) (R := R) hn).p x l hl).symm
/-! ### The map of what comes before, beside the paths -/
structure RelMT (M : BefM) (T : PathM) : Prop where
  n : ∀ y, (M y).isSome = (T y).isSome
  c : ∀ y l, T y = some l → ∃ f p, M y = some f ∧ l = p ++ [y] ∧ ((f = zeroI ∧ p = []) ∨ (f ≠ zeroI ∧ T f = some p))
def Fro (T : PathM) (f : IDE) (p : List IDE) : Prop := (f = zeroI ∧ p = []) ∨ (f ≠ zeroI ∧ T f = some p)
theorem Fro.mono {a b : PathM × List IDE} {f : IDE} {p : List IDE} (h : Fro a.1 f p) (k : Mono a b) : Fro b.1 f p := h.imp id fun h => ⟨h.1, k.p _ _ h.2⟩
/-- A state of the code beside a state of the plain search: what has been left is o. -/
structure BRel (o : List IDE) (b : BefM × List IDE) (t : PathM × List IDE) : Prop where
  r : RelMT b.1 t.1
  o : t.2 = o ++ b.2
theorem BRel.visit {G : List NodeC} {o : List IDE} {b : BefM × List IDE} {t : PathM × List IDE} {f : IDE} {p : List IDE} (h : BRel o b t) (hf : Fro t.1 f p) (y : IDE) : BRel o (visitB G b y f) (visitT G p t y) := by
  have hn := h.r.n y
  rcases visitT_cases G p t y with ⟨e, h1⟩ | ⟨h1, h2, e⟩
  · have : visitB G b y f = b := by
      unfold visitB
      rw [if_neg]
      rintro ⟨h2, h3⟩
      rw [hn, h1 h2] at h3; cases h3
    rw [e, this]
    exact h
  · have hb : visitB G b y f = (mupd b.1 y f, b.2 ++ [y]) := by
      unfold visitB
      rw [if_pos ⟨h1, by rw [hn, h2]; rfl⟩]
    rw [hb, e]
    have hm : Mono t (mupd t.1 y (p ++ [y]), t.2 ++ [y]) := by rw [← e]; exact mono_visit
    refine ⟨⟨fun z => ?_, fun z l hz => ?_⟩, by show t.2 ++ [y] = o ++ (b.2 ++ [y]); rw [h.o, List.append_assoc]⟩
    · show (mupd b.1 y f z).isSome = (mupd t.1 y (p ++ [y]) z).isSome
      unfold mupd
      by_cases hz : z = y
      · rw [if_pos hz, if_pos hz]; rfl
      · rw [if_neg hz, if_neg hz]; exact h.r.n z
    · change mupd t.1 y (p ++ [y]) z = some l at hz
      show ∃ f' p', mupd b.1 y f z = some f' ∧ l = p' ++ [z] ∧ Fro (mupd t.1 y (p ++ [y])) f' p'
      by_cases hzy : z = y
      · subst hzy
        unfold mupd at hz
        rw [if_pos rfl] at hz
        injection hz with hz
        exact ⟨f, p, by unfold mupd; rw [if_pos rfl], hz.symm, hf.mono hm⟩
      · unfold mupd at hz
        rw [if_neg hzy] at hz
        obtain ⟨f', p', h3, h4, h5⟩ := h.r.c z l hz
        exact ⟨f', p', by unfold mupd; rw [if_neg hzy]; exact h3, h4, Fro.mono (a := t) h5 hm⟩
theorem BRel.start : BRel [] ((fun _ => none : BefM), []) ((fun _ => none : PathM), []) := ⟨⟨fun _ => rfl, fun _ _ h => by cases h⟩, rfl⟩
/-! ### Paths are short -/
def PLen (st : PathM × List IDE) : Prop := ∀ y l, st.1 y = some l → l.length ≤ st.2.length
theorem PLen.visit {G : List NodeC} {p : List IDE} {st : PathM × List IDE} {y : IDE} (h : PLen st) (hp : p.length ≤ st.2.length) : PLen (visitT G p st y) := by
  rcases visitT_cases G p st y with ⟨e, -⟩ | ⟨h1, h2, e⟩
  · rw [e]; exact h
  · rw [e]
    intro z l hz
    show l.length ≤ (st.2 ++ [y]).length
    rw [List.length_append, List.length_singleton]
    change mupd st.1 y (p ++ [y]) z = some l at hz
    unfold mupd at hz
    split at hz
    · injection hz with hz
      rw [← hz, List.length_append, List.length_singleton]
      omega
    · have := h z l hz
      omega
theorem PLen.fold {G : List NodeC} {p : List IDE} : ∀ {ys : List IDE} {st : PathM × List IDE}, PLen st → p.length ≤ st.2.length → PLen (ys.foldl (visitT G p) st)
  | [], _, h, _ => h
  | y :: ys, st, h, hp => PLen.fold (ys := ys) (h.visit hp) (by
    obtain ⟨e, he⟩ := (mono_visit (G := G) (p := p) (st := st) (y := y)).o
    rw [he, List.length_append]; omega)
theorem bfs_plen (G : List NodeC) (R : List IDE) : ∀ n, PLen (bfsT G R n)
  | 0 => PLen.fold (fun _ _ h => by cases h) (Nat.zero_le _)
  | n + 1 => by
    unfold bfsT
    split
    · next x _ =>
      refine PLen.fold (bfs_plen G R n) ?_
      cases h : (bfsT G R n).1 x with
      | none => exact Nat.zero_le _
      | some l => exact bfs_plen G R n x l h
    · exact bfs_plen G R n
theorem paths_len {G : List NodeC} {R : List IDE} {y : IDE} {l : List IDE} (h : pathsT G R y = some l) : l.length ≤ G.length := Nat.le_trans (bfs_plen G R G.length y l h) (bfs_ok G R G.length).len
theorem bfs_next {G : List NodeC} {R : List IDE} {n : Nat} {x : IDE} (h : (bfsT G R n).2[n]? = some x) : bfsT G R (n + 1) = nextsT G (bfsT G R n) x := by
  conv => lhs; unfold bfsT
  rw [h]
theorem bfs_old {G : List NodeC} {R : List IDE} {i n k : Nat} (h : i ≤ n) {x : IDE} (hx : (bfsT G R i).2[k]? = some x) : (bfsT G R n).2[k]? = some x := by
  obtain ⟨e, he⟩ := (bfs_mono (G := G) (R := R) h).o
  rw [he, List.getElem?_append_left (List.getElem?_eq_some_iff.1 hx).1]
  exact hx
theorem path_some {G : List NodeC} {R : List IDE} {n : Nat} {x : IDE} (h : x ∈ (bfsT G R n).2) : ∃ p, (bfsT G R n).1 x = some p := Option.isSome_iff_exists.1 (((bfs_ok G R n).mem x).1 h)
end Go.Proofs.YtpkfenlfgdbkcaaGreatDoor

namespace Go.Proofs.YtpkfenlfgdbkcaaGreatDoor
open Go.RowKit
attribute [local go_sem ↓] run_eql_id run_neq_id
attribute [local go_sem] Oper.semAt_some
abbrev IDE.vv (k : IDE) : Value := .agg #[.int .i64 k.machine, .int .i64 k.serial]
theorem id_agg (x y : IDE) (w : World) : (Op.equal 24 x.vv y.vv).run Tryz.prog w = .ok (decide (x = y)) w := by
  have ht : Tryz.prog.underlying 24 = some (.struct (Tryz.prog.fieldsOf 24)) := by kernel_rfl
  have hp : Tryz.prog.stoodInHeld 24 = false := by kernel_rfl
  have hu := Tryz.underlying24
  have hd : decide (x = y) = x.beq y := by rw [Bool.eq_iff_iff, decide_eq_true_eq]; exact IDE.beq_iff.symm
  rw [hd]
  unfold Op.equal Op.maxDepth
  rw [run_equalIn_struct w 9999 24 _ _ ht hp]
  obtain ⟨fs, hfs⟩ : ∃ fs, Tryz.prog.fieldsOf 24 = fs := ⟨_, rfl⟩
  rw [hfs] at ht ⊢
  rw [hu] at ht
  have ht2 := TypeDesc.struct.inj (Option.some.inj ht)
  subst ht2
  simp only [Op.eqFields, ne_eq]
  simp [go_sem, IDE.beq]
  clear hfs hu ht hp
  by_cases h0 : x.machine = y.machine
  · rw [if_pos h0]
    by_cases h1 : x.serial = y.serial <;> simp [h0, h1]
  · rw [if_neg h0]; simp [beq_eq_false_iff_ne.2 h0]
theorem keyI : KeyL Tryz.prog 24 IDE.vv :=
  keyL_struct Tryz.underlying24 (fun a b h => by
    simp only [Value.agg.injEq, Array.mk.injEq, List.cons.injEq, Value.int.injEq, true_and, and_true] at h
    cases a; cases b; simp_all) (fun a => ⟨_, rfl⟩) (fun w em a => by cases em <;> kernel_rfl) (fun w a b => id_agg a b w) (fun a => by simp [Instr.sameBits])
theorem zeroBool (w : World) : (zeroValue 4).run Tryz.prog w = .ok (.bool false) w := by kernel_rfl
/-- The set of a list's members, as a map. -/
def memM (l : List IDE) (x : IDE) : Option Bool := if x ∈ l then some true else none
theorem memM_snoc {l : List IDE} {y : IDE} : mupd (memM l) y true = memM (l ++ [y]) := by
  funext x
  unfold mupd memM
  by_cases h : x = y
  · simp [h]
  · simp [h]
theorem memM_look (l : List IDE) (x : IDE) : (memM l x).elim (Value.bool false) Value.bool = .bool (decide (x ∈ l)) := by
  unfold memM
  by_cases h : x ∈ l <;> simp [h]
end Go.Proofs.YtpkfenlfgdbkcaaGreatDoor

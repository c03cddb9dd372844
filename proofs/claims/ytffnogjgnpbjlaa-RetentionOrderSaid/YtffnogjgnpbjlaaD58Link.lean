/-
  Contracts of the functions of this seat that each theorem names: what a call returns, and that it writes nothing that was there before. The conditions stand in each theorem.
-/
import Derived.Test.YtffnogjgnpbjlaaGrp4
import Derived.Test.YtffnogjgnpbjlaaGReach
set_option linter.unusedSimpArgs false
set_option linter.unusedVariables false
namespace Go.Proofs.Ytffnogjgnpbjlaa
open Go.RowKit
attribute [local go_sem] Oper.semAt_some
attribute [local simp] heap_drew
theorem intTL : ElemT Try.prog 32 3 1 8 := ElemT.mk' (z := .int .i64 0) Try.underlying32 (by kernel_rfl) rfl
theorem zeroIntL (w : World) : (zeroValue 3).run Try.prog w = .ok (.int .i64 0) w := by kernel_rfl
def addL (ids : List IDE) (n : Nat) (q : List IDE) (i : Nat) : List Int := (q.filter fun y => decide (y = ids.getD i ⟨0, 0⟩)).map fun _ => (n : Int)
theorem addL_snoc {ids : List IDE} {n : Nat} {q : List IDE} {y : IDE} {i : Nat} : addL ids n (q ++ [y]) i = addL ids n q i ++ (if y = ids.getD i ⟨0, 0⟩ then [(n : Int)] else []) := by
  unfold addL
  rw [List.filter_append, List.map_append]
  generalize ids.getD i ⟨0, 0⟩ = z
  by_cases h : y = z
  · simp [h]
  · simp [h]
/-- The lists have grown by what q adds. -/
def Grew (ids : List IDE) (n : Nat) (q : List IDE) (ps ps' : List PrE) : Prop := ps'.length = ps.length ∧ ∀ (i : Nat) (x : PrE), ps[i]? = some x → ∃ x', ps'[i]? = some x' ∧ x'.l = x.l ++ addL ids n q i
theorem Grew.nil {ids : List IDE} {n : Nat} {ps : List PrE} : Grew ids n [] ps ps := ⟨rfl, fun i x h => ⟨x, h, by simp [addL]⟩⟩
theorem Grew.skip {ids : List IDE} {n : Nat} {q : List IDE} {ps ps' : List PrE} {y : IDE} (h : Grew ids n q ps ps') (hl : ps.length = ids.length) (hy : y ∉ ids) : Grew ids n (q ++ [y]) ps ps' := ⟨h.1, fun i x hx => by
  obtain ⟨x', h1, h2⟩ := h.2 i x hx
  have hi : i < ids.length := by rw [← hl]; exact get_lt hx
  refine ⟨x', h1, ?_⟩
  rw [addL_snoc, if_neg, List.append_nil, h2]
  intro e
  exact hy (by rw [e]; exact List.mem_of_getElem? (idsAt_get hi))⟩
theorem Grew.push {ids : List IDE} {n : Nat} {q : List IDE} {ps ps' : List PrE} {y : IDE} {k : Nat} {x : PrE} {A : Option Addr} {c : Nat} (h : Grew ids n q ps ps') (hl : ps.length = ids.length) (hn : ids.Nodup) (hk : ids[k]? = some y) (hx : ps'[k]? = some x) : Grew ids n (q ++ [y]) ps (ps'.set k ⟨A, c, x.l ++ [(n : Int)]⟩) := ⟨by rw [List.length_set, h.1], fun i z hz => by
  obtain ⟨z', h1, h2⟩ := h.2 i z hz
  have hi : i < ids.length := by rw [← hl]; exact get_lt hz
  rw [addL_snoc]
  by_cases e : i = k
  · subst e
    rw [h1] at hx
    injection hx with hx
    subst hx
    refine ⟨_, by rw [List.getElem?_set, if_pos rfl, if_pos (get_lt h1)], ?_⟩
    rw [if_pos (by rw [getD_of hk]), ← List.append_assoc, ← h2]
  · refine ⟨z', by rw [List.getElem?_set, if_neg (fun e' => e e'.symm)]; exact h1, ?_⟩
    rw [if_neg, List.append_nil, h2]
    intro e'
    have := idsAt_get hi
    rw [← e'] at this
    exact e (nodup_idx hn this hk)⟩
def LinkP (B : Nat) (ids : List IDE) (n : Nat) (q : List IDE) (PA : Option Addr) (PC : Nat) (ps : List PrE) (w : World) (r : Ending) (w' : World) : Prop := r = .returned (.tuple #[]) ∧ ∃ ps', PredsSt B w' PA PC ps' ∧ Grew ids n q ps ps' ∧ OnlyI B w w'
set_option maxRecDepth 100000 in
set_option maxHeartbeats 8000000 in
theorem link_any (n : Nat) (ids q : List IDE) (hn : ids.Nodup) (B : Nat) (PA : Option Addr) (PC : Nat) (ps : List PrE) (hpl : ps.length = ids.length) (b2 b14 gI : Nat) (QA : Option Addr) (QC : Nat) (w : World)
    (h2 : w.heap[b2]? = some (.cells #[.map (some gI)] 73 (0, 0))) (hI : MapFn IDE.vv (Value.int .i64) w gI (idxM ids [])) (h14 : w.heap[b14]? = some (.cells #[.slice PA ps.length PC] 85 (0, 0))) (S : PredsSt B w PA PC ps) (hB : B ≤ w.heap.size)
    (HQ : ∀ w', OnlyI B w w' → SlAt IDE.cells 2 w' QA q) (hql : q.length ≤ 20000) (hsz : ∀ x ∈ ps, x.l.length ≤ 1000000000) (hil : ids.length ≤ 100000) :
    Calls Try.prog 71 #[.int .i64 n, .slice QA q.length QC, .pointer (some ⟨b2, 0, none⟩), .pointer (some ⟨b14, 0, none⟩)] w (LinkP B ids n q PA PC ps w) := by
  have hpl' := hide hpl
  rw [hpl] at h14
  clear hpl
  go_enter Try.func71, Try.ntmps71
  go_upto_region 1 with fail
  go_loopw [12] (fun iv wr => ∃ (m : Nat) (ps' : List PrE), m ≤ q.length ∧ iv = .int .i64 m ∧ PredsSt B wr PA PC ps' ∧ Hid (Grew ids n (q.take m) ps ps') ∧ OnlyI B w wr) (fun iv _ => q.length - (intOf iv).toNat)
  case atStart => exact ⟨0, ps, by omega, rfl, S, hide Grew.nil, OnlyI.refl⟩
  case round =>
    obtain ⟨m, ps', hm, rfl, Sr, hg, honr⟩ := hrel
    have hps' := hide (show ps'.length = ids.length by rw [hg.out.1, hpl'.out])
    have lrr : Later wr wr := Later.refl
    have X2 := boxed (honr.cells h2 (by decide) (by decide))
    have X14 := boxed (honr.cells h14 (by decide) (by decide))
    have hzr := honr.size
    by_cases hlt : m < q.length
    · have hmi : (m : Int) < (q.length : Int) := by omega
      obtain ⟨y, hy⟩ : ∃ y, q[m]? = some y := ⟨_, List.getElem?_eq_getElem hlt⟩
      obtain ⟨b9, o9, rfl, C1, C2⟩ := id_at (HQ wr honr) hy
      have hT := hide (take_snoc_get hy)
      have hli : ∀ (u : World) [Later wr u], (Instr.lookup 73 (.map (some gI)) (.agg #[.int .i64 y.machine, .int .i64 y.serial]) true).run Try.prog u = .ok (.tuple #[(idxM ids [] y).elim (.int .i64 0) (Value.int .i64), .bool (idxM ids [] y).isSome]) u :=
        fun u i => run_look_ok keyI Try.underlying73 zeroIntL ((honr.mapFn hI).later u) y
      clear hy
      by_cases hyi : y ∈ ids
      · obtain ⟨k, hk⟩ := List.getElem?_of_mem hyi
        rw [idxM_at hn hk] at hli
        simp only [Option.elim_some, Option.isSome_some] at hli
        have hkl := get_lt hk
        have hkp : k < ps'.length := by rw [hps'.out]; exact hkl
        obtain ⟨x, hx⟩ : ∃ x, ps'[k]? = some x := ⟨_, List.getElem?_eq_getElem hkp⟩
        have hxl := hide (show x.l.length ≤ 1000020000 by
          obtain ⟨z, hz⟩ : ∃ z, ps[k]? = some z := ⟨_, List.getElem?_eq_getElem (by rw [hpl'.out]; exact hkl)⟩
          obtain ⟨z', h3, h4⟩ := hg.out.2 k z hz
          rw [hx] at h3
          injection h3 with h3
          subst h3
          have h5 := hsz z (List.mem_of_getElem? hz)
          have h6 : (addL ids n (q.take m) k).length ≤ m := by
            unfold addL
            rw [List.length_map]
            exact Nat.le_trans (List.length_filter_le _ _) (by rw [List.length_take]; omega)
          rw [h4, List.length_append]; omega)
        have Hk := hide hk
        have Hx := hide hx
        obtain ⟨gP, rfl⟩ := Sr.o.isSome (by rintro rfl; simp at hkp)
        have hxo := hide (Sr.e x (List.mem_of_getElem? hx))
        have CP : ∀ u [Later wr u], u.cell? ⟨gP, k, none⟩ = some (.slice x.A x.l.length x.c) := Later.cell (by have := Sr.o.cell PrE.enc hx (j := 0) rfl; simpa using this)
        have hki : (k : Int) < (ids.length : Int) := by omega
        have Sh := hide Sr
        obtain ⟨y1, y2⟩ := y
        dsimp only at C1 C2 hli
        clear hk hx hyi
        go_upto_region 5 with fail
        refine wp_name ?_
        intro w6 hw6
        obtain ⟨B9, l6⟩ := box1 hw6
        clear hw6
        have l66 : Later w6 w6 := Later.refl
        have h14r := honr.cells h14 (by decide) (by decide)
        have hBr : B ≤ wr.heap.size := Nat.le_trans hB hzr
        have c14 : ∀ u [Later wr u], u.cell? ⟨b14, 0, none⟩ = some (.slice (some ⟨gP, 0, none⟩) ids.length PC) := fun u i => by have := ((X14 u).2 0).1; simpa using this
        have lw6 : Later wr w6 := l6 wr
        clear hli C1 C2 X2
        refine wp_region_held_drew (S := fun z => z.cell? ⟨b14, 0, none⟩ = some (.slice (some ⟨gP, 0, none⟩) ids.length PC)) (by kernel_rfl) (c14 _) (fun hHeld => ?_)
        refine wpAnyH_take (i := 0) (oi := _) (v := ?_) rfl (by kernel_rfl) (by kernel_rfl) (by kernel_rfl) (fun _ _ _ h => h) (Or.inl ⟨by rfl, ?_⟩) (by assumption) ?_
        rotate_left 1
        · (intro wy hSw; (try dsimp only at hSw); go_simp; try with_reducible rfl)
        (try simp only [Act.put])
        refine wpAnyH_take (i := 1) (oi := _) (v := ?_) rfl (by kernel_rfl) (by kernel_rfl) (by kernel_rfl) (fun _ _ _ h => h) (Or.inl ⟨by rfl, ?_⟩) (by assumption) ?_
        rotate_left 1
        · (intro wy hSw; (try dsimp only at hSw); go_simp; try with_reducible rfl)
        (try simp only [Act.put])
        refine wpAnyH_take (i := 2) (oi := _) (v := ?_) rfl (by kernel_rfl) (by kernel_rfl) (by kernel_rfl) (fun _ _ _ h => h) (Or.inl ⟨by rfl, ?_⟩) (by assumption) ?_
        rotate_left 1
        · (intro wy hSw; (try dsimp only at hSw); go_simp; try with_reducible rfl)
        (try simp only [Act.put])
        refine wpAnyH_take (i := 3) (oi := _) (v := ?_) rfl (by kernel_rfl) (by kernel_rfl) (by kernel_rfl) (fun _ _ _ h => h) (Or.inl ⟨by rfl, ?_⟩) (by assumption) ?_
        rotate_left 1
        · (intro wy hSw; (try dsimp only at hSw); go_simp; try with_reducible rfl)
        (try simp only [Act.put])
        refine wpAnyH_take (i := 4) (oi := _) (v := ?_) rfl (by kernel_rfl) (by kernel_rfl) (by kernel_rfl) (fun _ _ _ h => h) (Or.inl ⟨by rfl, ?_⟩) (by assumption) ?_
        rotate_left 1
        · (intro wy hSw; (try dsimp only at hSw); go_simp; try with_reducible rfl)
        (try simp only [Act.put])
        refine wpAnyH_take (i := 6) (oi := _) (v := ?_) rfl (by kernel_rfl) (by kernel_rfl) (by kernel_rfl) (fun _ _ _ h => h) (Or.inl ⟨by rfl, ?_⟩) (by assumption) ?_
        rotate_left 1
        · (intro wy hSw; (try dsimp only at hSw); go_simp; try with_reducible rfl)
        (try simp only [Act.put])
        refine wpAnyH_ready (rs := [5, 7]) (by kernel_rfl) (by simp) ?_
        refine AllReadyH.cons (o := _) rfl (fun K9 hK9 => ?_) (AllReadyH.cons (o := _) rfl (fun K9 hK9 => ?_) AllReadyH.nil)
        · go_simp
          refine hK9.out _ _ (c14 _) (fun hHeld => ?_)
          clear hK9 K9
          (try simp only [Act.put])
          refine wpAnyH_ready (rs := [7]) (by kernel_rfl) (by simp) ?_
          refine AllReadyH.cons (o := _) rfl ?_ AllReadyH.nil
          intro K9 hK9
          go_simp
          refine hK9.out _ _ (c14 _) (fun hHeld => ?_)
          clear hK9 K9
          (try simp only [Act.put])
          obtain ⟨wz, hwz⟩ : ∃ z, z = (w6.alloc (.cells #[.int .i64 n] 3)).drew := ⟨_, rfl⟩
          have lz : Below w6.heap.size w6 wz := by rw [hwz]; exact (by repeat (first | with_reducible exact Below.refl _ _ | (with_reducible refine Below.drew ?_) | (with_reducible refine below_drewN ?_ _) | (with_reducible refine Below.alloc ?_ ?_ _; rotate_left; (first | omega | (simp <;> omega))) | (with_reducible refine Below.setCell ?_ ?_ _; rotate_left; (first | omega | (simp <;> omega)))))
          have kz : wz.heap[w6.heap.size]? = some (.cells #[.int .i64 n] 3 (0, 0)) := by rw [hwz, heap_drew]; exact heap_alloc_new w6 _
          rw [← hwz] at hHeld ⊢
          clear hwz
          have lzr : Below wr.heap.size wr wz := (l6 wr).below.trans (lz.mono (l6 wr).below.size)
          have Sz := hide (Sh.out.below lzr)
          have hxz := hide (hxo.out.below lzr)
          have k14 := blk_below h14r lzr
          have hBz : B ≤ wz.heap.size := Nat.le_trans hBr lzr.size
          refine wpAnyH_ready (rs := [8]) (by kernel_rfl) (by simp) ?_
          refine AllReadyH.cons (o := _) rfl ?_ AllReadyH.nil
          intro K9 hK9
          refine step_app2 rfl (.tmp 28) (.tmp 30) (by rfl) I64.enc intTL _ _ [(n : Int)] x.l x.v (by rfl) (by rfl) (m := 1) (n := x.l.length + 1) rfl rfl hxz.out (blk_slAt I64.enc (fr := (0, 0)) (e := 3) kz [(n : Int)] rfl) (by have := hxl.out; omega) (by have := hxl.out; unfold maxLen; omega) hBz ?_
          intro A9 c9 w9 ho9 hm9 hst9
          have P9 := own_grownOwn hxz.out hst9.1 Sz.out.o (by decide)
          have k149 := heap_grownOwn hxz.out hst9.1 k14 (by decide)
          have hPc : w9.cell? ⟨gP, k, none⟩ = some (.slice x.A x.l.length x.c) := by have := P9.cell PrE.enc Hx.out (j := 0) rfl; simpa using this
          have hPf : w9.frozen? ⟨gP, k, none⟩ = false := P9.free k
          have hPne : gP ≠ b14 := fun e => own_off P9 k149 (by decide) (by rw [← e]; rfl)
          have hc9 : w9.cell? ⟨b14, 0, none⟩ = some (.slice (some ⟨gP, 0, none⟩) ids.length PC) := by have := ((boxed k149 w9).2 0).1; simpa using this
          have HPush := hide (Sz.out.push Hx.out rfl hst9 ho9)
          have HG := hide (show Grew ids n (q.take (m + 1)) ps (ps'.set k ⟨A9, c9, x.l ++ [(n : Int)]⟩) by rw [hT.out]; exact hg.out.push hpl'.out hn Hk.out Hx.out)
          clear P9 k149 ho9 hst9 hm9
          refine hK9.out _ _ hc9 (fun hHeld => ?_)
          clear hK9 K9
          (try simp only [Act.put])
          refine wpAnyH_take (i := 9) (oi := _) (v := ?_) rfl (by kernel_rfl) (by kernel_rfl) (by kernel_rfl) (fun _ _ _ h => h) (Or.inl ⟨by rfl, ?_⟩) (by assumption) ?_
          rotate_left 1
          · (intro wy hSw; (try dsimp only at hSw); go_simp; try with_reducible rfl)
          (try simp only [Act.put])
          refine wpAnyH_ready (rs := [10]) (by kernel_rfl) (by simp) ?_
          refine AllReadyH.cons (o := _) rfl ?_ AllReadyH.nil
          intro K9 hK9
          go_simp
          refine hK9.out _ _ (by exact (World.cell?_setCell_far _ ⟨gP, k, none⟩ _ _ hPne).trans hc9) (fun hHeld => ?_)
          clear hK9 K9
          (try simp only [Act.put])
          refine wpAnyH_done (by kernel_rfl) ?_ _
          go_wp2_with fail
          go_roundw
          case rel => exact ⟨m + 1, _, by omega, by go_num, HPush.out.1, HG, (honr.trans (OnlyI.of_below lzr)).trans HPush.out.2⟩
          case measure => simp [intOf]; omega
        · go_simp
          refine hK9.out _ _ (c14 _) (fun hHeld => ?_)
          clear hK9 K9
          (try simp only [Act.put])
          refine wpAnyH_ready (rs := [5]) (by kernel_rfl) (by simp) ?_
          refine AllReadyH.cons (o := _) rfl ?_ AllReadyH.nil
          intro K9 hK9
          go_simp
          refine hK9.out _ _ (c14 _) (fun hHeld => ?_)
          clear hK9 K9
          (try simp only [Act.put])
          obtain ⟨wz, hwz⟩ : ∃ z, z = (w6.alloc (.cells #[.int .i64 n] 3)).drew := ⟨_, rfl⟩
          have lz : Below w6.heap.size w6 wz := by rw [hwz]; exact (by repeat (first | with_reducible exact Below.refl _ _ | (with_reducible refine Below.drew ?_) | (with_reducible refine below_drewN ?_ _) | (with_reducible refine Below.alloc ?_ ?_ _; rotate_left; (first | omega | (simp <;> omega))) | (with_reducible refine Below.setCell ?_ ?_ _; rotate_left; (first | omega | (simp <;> omega)))))
          have kz : wz.heap[w6.heap.size]? = some (.cells #[.int .i64 n] 3 (0, 0)) := by rw [hwz, heap_drew]; exact heap_alloc_new w6 _
          rw [← hwz] at hHeld ⊢
          clear hwz
          have lzr : Below wr.heap.size wr wz := (l6 wr).below.trans (lz.mono (l6 wr).below.size)
          have Sz := hide (Sh.out.below lzr)
          have hxz := hide (hxo.out.below lzr)
          have k14 := blk_below h14r lzr
          have hBz : B ≤ wz.heap.size := Nat.le_trans hBr lzr.size
          refine wpAnyH_ready (rs := [8]) (by kernel_rfl) (by simp) ?_
          refine AllReadyH.cons (o := _) rfl ?_ AllReadyH.nil
          intro K9 hK9
          refine step_app2 rfl (.tmp 28) (.tmp 30) (by rfl) I64.enc intTL _ _ [(n : Int)] x.l x.v (by rfl) (by rfl) (m := 1) (n := x.l.length + 1) rfl rfl hxz.out (blk_slAt I64.enc (fr := (0, 0)) (e := 3) kz [(n : Int)] rfl) (by have := hxl.out; omega) (by have := hxl.out; unfold maxLen; omega) hBz ?_
          intro A9 c9 w9 ho9 hm9 hst9
          have P9 := own_grownOwn hxz.out hst9.1 Sz.out.o (by decide)
          have k149 := heap_grownOwn hxz.out hst9.1 k14 (by decide)
          have hPc : w9.cell? ⟨gP, k, none⟩ = some (.slice x.A x.l.length x.c) := by have := P9.cell PrE.enc Hx.out (j := 0) rfl; simpa using this
          have hPf : w9.frozen? ⟨gP, k, none⟩ = false := P9.free k
          have hPne : gP ≠ b14 := fun e => own_off P9 k149 (by decide) (by rw [← e]; rfl)
          have hc9 : w9.cell? ⟨b14, 0, none⟩ = some (.slice (some ⟨gP, 0, none⟩) ids.length PC) := by have := ((boxed k149 w9).2 0).1; simpa using this
          have HPush := hide (Sz.out.push Hx.out rfl hst9 ho9)
          have HG := hide (show Grew ids n (q.take (m + 1)) ps (ps'.set k ⟨A9, c9, x.l ++ [(n : Int)]⟩) by rw [hT.out]; exact hg.out.push hpl'.out hn Hk.out Hx.out)
          clear P9 k149 ho9 hst9 hm9
          refine hK9.out _ _ hc9 (fun hHeld => ?_)
          clear hK9 K9
          (try simp only [Act.put])
          refine wpAnyH_take (i := 9) (oi := _) (v := ?_) rfl (by kernel_rfl) (by kernel_rfl) (by kernel_rfl) (fun _ _ _ h => h) (Or.inl ⟨by rfl, ?_⟩) (by assumption) ?_
          rotate_left 1
          · (intro wy hSw; (try dsimp only at hSw); go_simp; try with_reducible rfl)
          (try simp only [Act.put])
          refine wpAnyH_ready (rs := [10]) (by kernel_rfl) (by simp) ?_
          refine AllReadyH.cons (o := _) rfl ?_ AllReadyH.nil
          intro K9 hK9
          go_simp
          refine hK9.out _ _ (by exact (World.cell?_setCell_far _ ⟨gP, k, none⟩ _ _ hPne).trans hc9) (fun hHeld => ?_)
          clear hK9 K9
          (try simp only [Act.put])
          refine wpAnyH_done (by kernel_rfl) ?_ _
          go_wp2_with fail
          go_roundw
          case rel => exact ⟨m + 1, _, by omega, by go_num, HPush.out.1, HG, (honr.trans (OnlyI.of_below lzr)).trans HPush.out.2⟩
          case measure => simp [intOf]; omega
      · rw [idxM_none hyi] at hli
        simp only [Option.elim_none, Option.isSome_none] at hli
        have Hg := hide (show Grew ids n (q.take (m + 1)) ps ps' by rw [hT.out]; exact hg.out.skip hpl'.out hyi)
        obtain ⟨y1, y2⟩ := y
        dsimp only at C1 C2 hli
        clear hyi
        go_upto_region 4 with fail
        refine wp_name ?_
        intro w6 hw6
        obtain ⟨B9, l6⟩ := box1 hw6
        clear hw6
        go_wp2_with fail
        go_roundw
        case rel => exact ⟨m + 1, ps', by omega, by go_num, Sr.below (l6 wr).below, Hg, honr.trans (OnlyI.of_below (l6 wr).below)⟩
        case measure => simp [intOf]; omega
    · have hmm : m = q.length := by omega
      subst hmm
      go_wp2_with fail
      go_end0
      exact ⟨rfl, ps', Sr, by have := hg.out; rwa [List.take_length] at this, honr⟩
end Go.Proofs.Ytffnogjgnpbjlaa

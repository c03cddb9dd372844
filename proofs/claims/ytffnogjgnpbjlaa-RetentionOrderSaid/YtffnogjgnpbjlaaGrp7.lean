/-
  Small texts of this seat, put into one. Conditions stand in each theorem.
-/
import Derived.Test.YtffnogjgnpbjlaaGrp2
import Derived.Test.YtffnogjgnpbjlaaGrp1
import Derived.Test.YtffnogjgnpbjlaaD58Sizes
import Derived.Test.YtffnogjgnpbjlaaD58Visit
import Derived.Test.YtffnogjgnpbjlaaD58Search
set_option linter.unusedSimpArgs false
set_option linter.unusedVariables false
namespace Go.Proofs.Ytffnogjgnpbjlaa
open Go.RowKit Go.Shelf Go.Lib Go.Sort
attribute [local go_sem] Oper.semAt_some
attribute [local simp] heap_drew
def szM (M : IDE → Option Int) (x : IDE) : Int := (M x).getD 0
def cmpS (M : IDE → Option Int) (a b : IDE) : Int := cmpN (szM M b) (szM M a)
theorem cmpS_lt (M : IDE → Option Int) : Go.Proofs.ltOf (cmpS M) = ltS (szM M) := by
  funext a b
  unfold Go.Proofs.ltOf cmpS cmpN ltS
  by_cases h1 : szM M b < szM M a
  · simp [h1]
  · by_cases h2 : szM M a < szM M b <;> simp [h1, h2]
theorem cmpS_swo (M : IDE → Option Int) : SWO (Go.Proofs.ltOf (cmpS M)) := by rw [cmpS_lt]; exact ltS_swo _
set_option maxRecDepth 100000 in
set_option maxHeartbeats 2000000 in
/-- Largest's closure. -/
theorem larg1_any (M : IDE → Option Int) (b g : Nat) (w : World) (hb : w.heap[b]? = some (.cells #[.map (some g)] 73 (0, 0))) (hM : MapFn IDE.vv (Value.int .i64) w g M) (x y : IDE) :
    Calls Try.prog 40 #[.agg x.cells.toArray, .agg y.cells.toArray, .pointer (some ⟨b, 0, none⟩)] w fun e w' => e = .returned (.int .i64 (cmpS M x y)) ∧ Grown w w' := by
  show Calls Try.prog 40 #[.agg #[.int .i64 x.machine, .int .i64 x.serial], .agg #[.int .i64 y.machine, .int .i64 y.serial], .pointer (some ⟨b, 0, none⟩)] w fun e w' => e = .returned (.int .i64 (cmpS M x y)) ∧ Grown w w'
  have hlk : ∀ (u : World) [Gr w u] (x : IDE), (Instr.lookup 73 (.map (some g)) (.agg #[.int .i64 x.machine, .int .i64 x.serial]) false).run Try.prog u = .ok ((M x).elim (.int .i64 0) (Value.int .i64)) u :=
    fun u i x => run_look keyI Try.underlying73 zeroIntL (hM.below i.out.below) x
  have hel : ∀ x, (M x).elim (.int .i64 0) (Value.int .i64) = .int .i64 (szM M x) := fun x => by unfold szM; cases M x <;> rfl
  have hlx := fun (u : World) [Gr w u] => hlk u x
  have hly := fun (u : World) [Gr w u] => hlk u y
  rw [hel] at hlx hly
  have Hc := hide (show cmpS M x y = cmpN (szM M y) (szM M x) from rfl)
  generalize szM M x = sx at hlx Hc
  generalize szM M y = sy at hly Hc
  have c0 : ∀ u [Gr w u], u.cell? ⟨b, 0, none⟩ = some (.map (some g)) := Gr.cell ((blk_cell hb 0).trans rfl)
  obtain ⟨x1, x2⟩ := x
  obtain ⟨y1, y2⟩ := y
  dsimp only at hlx hly ⊢
  clear hlk hel hM hb
  go_enter Try.func40, Try.ntmps40
  go_upto_region 1 with fail
  refine wp_name ?_
  intro w1 hw1
  have g1 : ∀ b [Gr b w], Gr b w1 := fun b i => by rw [← hw1]; infer_instance
  have d0 : ∀ u [Gr w1 u], u.cell? ⟨w.heap.size, 0, none⟩ = some (.int .i64 x1) := Gr.cell (by rw [← hw1]; simp [go_sem])
  have d1 : ∀ u [Gr w1 u], u.cell? ⟨w.heap.size, 1, none⟩ = some (.int .i64 x2) := Gr.cell (by rw [← hw1]; simp [go_sem])
  have d2 : ∀ u [Gr w1 u], u.cell? ⟨w.heap.size + 1, 0, none⟩ = some (.int .i64 y1) := Gr.cell (by rw [← hw1]; simp [go_sem])
  have d3 : ∀ u [Gr w1 u], u.cell? ⟨w.heap.size + 1, 1, none⟩ = some (.int .i64 y2) := Gr.cell (by rw [← hw1]; simp [go_sem])
  have gw : ∀ u [Gr w1 u], Gr w u := fun u i => ⟨(g1 w).out.trans i.out⟩
  have c0' : ∀ u [Gr w1 u], u.cell? ⟨b, 0, none⟩ = some (.map (some g)) := fun u i => @c0 u (gw u)
  have hlx' := fun (u : World) [Gr w1 u] => @hlx u (gw u)
  have hly' := fun (u : World) [Gr w1 u] => @hly u (gw u)
  clear hw1 gw c0 hlx hly
  go_region_held3 (fun w' => ∀ b [Gr b w1], Gr b w') ((intro b _; infer_instance))
    ((first | (go_at_call 41; refine (compare_any _ _ _).mono ?_; rintro r w2 ⟨rfl, hg2⟩; have g2 := gr hg2)))
  all_goals go_wp2_with fail
  all_goals go_ret
  all_goals exact ⟨ret_int Hc.out.symm, (inferInstance : Gr w _).out⟩
end Go.Proofs.Ytffnogjgnpbjlaa

namespace Go.Proofs.Ytffnogjgnpbjlaa
open Go.RowKit Go.Shelf Go.Lib Go.Sort
attribute [local go_sem] Oper.semAt_some
attribute [local simp] heap_drew
set_option maxHeartbeats 2000000 in
theorem insNil_IDE (fv : Value) (w : World) : Calls Try.prog 75 #[.slice none 0 0, .int .i64 0, .int .i64 0, fv] w fun e w' => e = .returned (.tuple #[]) ∧ Below w.heap.size w w' := by
  go_enter Try.func75, Try.ntmps75
  go_wp2_with fail
  go_loopg [8] 1 (fun kx s8 wr => s8 = .int .i64 1 ∧ w = wr)
  case atStart => exact ⟨rfl, rfl⟩
  case round =>
    obtain ⟨rfl, rfl⟩ := hrel
    go_wp2_with fail
    go_end0
    exact ⟨rfl, Below.refl _ _⟩
set_option maxHeartbeats 2000000 in
theorem stableNil_IDE (fv : Value) (w : World) : Calls Try.prog 59 #[.slice none 0 0, .int .i64 0, fv] w fun e w' => e = .returned (.tuple #[]) ∧ Below w.heap.size w w' := by
  go_enter Try.func59, Try.ntmps59
  go_wp2_with fail
  go_loopg [7, 8] 1 (fun kx s7 s8 wr => s7 = .int .i64 0 ∧ s8 = .int .i64 20 ∧ w = wr)
  case atStart => exact ⟨rfl, rfl, rfl⟩
  case round =>
    obtain ⟨rfl, rfl, rfl⟩ := hrel
    go_wp2_with (go_at_call 75; refine (insNil_IDE fv _).mono ?_; rintro e w1 ⟨rfl, hb1⟩)
    go_loopg [6] 1 (fun kx s6 wr => s6 = .int .i64 20 ∧ Below w.heap.size w wr)
    case atStart => exact ⟨rfl, hb1⟩
    case round =>
      obtain ⟨rfl, hb⟩ := hrel
      go_wp2_with fail
      go_end0
      exact ⟨rfl, hb⟩
set_option maxHeartbeats 2000000 in
/-- slices.SortStableFunc over a slice that the call made itself, by decreasing size. -/
theorem sortBig (M : IDE → Option Int) (b gM : Nat) (A : Option Addr) (c : Nat) (l : List IDE) (base : Nat) (w : World) (hown : Own IDE.cells 2 46 base w (.slice A l.length c) l) (hl : l.length ≤ 100000000000) (hbase : base ≤ w.heap.size)
    (hb : w.heap[b]? = some (.cells #[.map (some gM)] 73 (0, 0))) (hM : MapFn IDE.vv (Value.int .i64) w gM M) :
    Calls Try.prog 39 #[.slice A l.length c, .func (.func 40) #[] #[.pointer (some ⟨b, 0, none⟩)]] w fun e w' => e = .returned (.tuple #[]) ∧ ∃ q, Srt (ltS (szM M)) q ∧ Stb (ltS (szM M)) l q ∧
      Own IDE.cells 2 46 base w' (.slice A l.length c) q ∧ Below base w w' := by
  rw [← cmpS_lt]
  rcases hown.form with ⟨hv, rfl⟩ | ⟨g, cap, hv, hg, hgl, hlc, hcm⟩
  · injection hv with h1 h2 h3
    subst h1 h3
    go_enter Try.func39, Try.ntmps39
    go_wp2_with (go_at_call 59; refine (stableNil_IDE _ _).mono ?_; rintro e w1 ⟨rfl, hb1⟩)
    go_end0
    exact ⟨rfl, [], List.Pairwise.nil, Stb.refl, Own.nil, hb1.mono hbase⟩
  · injection hv with h1 h2 h3
    subst h1 h3
    have hoff := own_off hown hb (by decide)
    have hoffM : (Value.slice (some ⟨g, 0, none⟩) l.length c).ownBlock ≠ some gM := fun e => by
      obtain ⟨es, ck, hm⟩ := mapFn_obj hM
      obtain ⟨cs, hc⟩ := own_type hown e
      rw [hm] at hc; cases hc
    have hcmp : ∀ (u : World), w.grownBy u (some g) → ∀ x y, Calls Try.prog 40 #[.agg x.cells.toArray, .agg y.cells.toArray, .pointer (some ⟨b, 0, none⟩)] u fun e w' => e = .returned (.int .i64 (cmpS M x y)) ∧ Grown u w' := fun u hu x y =>
      larg1_any M b gM u ((only_grown hu).boxed hb (fun e => hoff e)) (hM.of_heap ((only_grown hu).block gM hM.lt (fun e => hoffM e))) x y
    have hcall := stable_IDE (cmpS M) (cmpS_swo M) 40 #[.pointer (some ⟨b, 0, none⟩)] g 0 c l.toArray w (fun args w => by kernel_rfl) (fun m os dk _ x y => (hcmp _ sortK_grownBy x y).mono (by rintro e w' ⟨rfl, q, os', hw⟩; exact ⟨rfl, q, os', hw⟩)) ⟨IDE.enc.len, IDE.one, hown.holdsK IDE.enc, hgl⟩ (by simp; omega)
    rw [List.size_toArray] at hcall
    have hcall := hcall.mono (fun e w' (h : e = .returned (.tuple #[]) ∧ _) => (⟨h.1, hide h.2⟩ : e = .returned (.tuple #[]) ∧ Hid _))
    have hll : l.length ≤ 9223372036854775807 := by omega
    clear hcmp hM hb
    go_enter Try.func39, Try.ntmps39
    go_wp2_with (go_at_call 59; refine hcall.mono ?_; rintro e w1 ⟨rfl, hpost⟩)
    go_end0
    obtain ⟨d', h1, h2, n, os, rfl⟩ := hpost.out
    have hsz : d'.size = l.length := by have := h2.length (cmpS_swo M); simpa using this
    have hst : Stb (Go.Proofs.ltOf (cmpS M)) l d'.toList := by simpa using h2
    exact ⟨rfl, d'.toList, h1, hst, hown.sortK IDE.enc hsz, sortK_below hg hbase⟩
/-- The sizes known after k steps. -/
noncomputable def sizM (L : List NodeC) (roots q : List IDE) (k : Nat) (x : IDE) : Option Int := if x ∈ q.take k then some (sizeI L roots x) else none
theorem sizM_zero {L : List NodeC} {roots q : List IDE} : sizM L roots q 0 = fun _ => none := by funext x; simp [sizM]
theorem sizM_succ {L : List NodeC} {roots q : List IDE} {k : Nat} {y : IDE} (h : q[k]? = some y) : mupd (sizM L roots q k) y (sizeI L roots y) = sizM L roots q (k + 1) := by
  funext x
  unfold mupd sizM
  rw [take_snoc_get h]
  by_cases e : x = y
  · subst e; simp
  · by_cases h1 : x ∈ q.take k <;> simp [e, h1]
theorem sizM_all {L : List NodeC} {roots q : List IDE} {x : IDE} (h : x ∈ q) : szM (sizM L roots q q.length) x = sizeI L roots x := by unfold szM sizM; rw [List.take_length, if_pos h]; rfl
theorem SizesL.get {L : List NodeC} {roots q : List IDE} {s : List Int} (h : SizesL L roots q s) {k : Nat} {y : IDE} (hk : q[k]? = some y) : s[k]? = some (sizeI L roots y) := by
  obtain ⟨z, h1, h2⟩ := h.2 k y hk
  rw [h1, sizeP_iff.1 h2]
/-- The largest. -/
def LarL (L : List NodeC) (roots : List IDE) (n : Int) (out : List IDE) : Prop := ∃ q T : List IDE, ReachL L roots q ∧ T.Perm q ∧ T.Pairwise (bigger (sizeI L roots)) ∧ out = T.take (min (max n 0) (q.length : Int)).toNat
theorem LarL.of {L : List NodeC} {roots q T : List IDE} {n : Int} (hq : ReachL L roots q) (hs : Srt (ltS (szM (sizM L roots q q.length))) T) (hst : Stb (ltS (szM (sizM L roots q q.length))) q T) (hp : T.Perm q) : LarL L roots n (T.take (min (max n 0) (q.length : Int)).toNat) :=
  ⟨q, T, hq, hp, (sorted_bigger hq.1 hs hst).imp_of_mem fun {a b} ha hb h => by
    have ea := sizM_all (L := L) (roots := roots) ((hp.mem_iff).1 ha)
    have eb := sizM_all (L := L) (roots := roots) ((hp.mem_iff).1 hb)
    unfold bigger at h ⊢
    rwa [ea, eb] at h, rfl⟩
theorem LarL.unique {L : List NodeC} {roots : List IDE} {n : Int} {a b : List IDE} (h : LarL L roots n a) (h' : LarL L roots n b) : a = b := by
  obtain ⟨q, T, h1, h2, h3, rfl⟩ := h
  obtain ⟨q', T', h1', h2', h3', rfl⟩ := h'
  have e : q = q' := sortedI_unique h1.1 h1'.1 fun x => (h1.2 x).trans (h1'.2 x).symm
  subst e
  rw [bigger_unique h3 h3' fun x => (h2.mem_iff).trans (h2'.mem_iff).symm]
def LarP (L : List NodeC) (roots : List IDE) (n : Int) (w : World) (r : Ending) (w' : World) : Prop :=
  ∃ (q : List IDE) (A : Option Addr) (c : Nat), r = .returned (.slice A q.length c) ∧ Hid (LarL L roots n q ∧ ∃ ids d, TreeOk L roots ids d) ∧ SlAt IDE.cells 2 w' A q ∧ Below w.heap.size w w'
set_option maxRecDepth 100000 in
set_option maxHeartbeats 8000000 in
theorem larg_any (A : Option Addr) (c : Nat) (l : List NodeE) (n : Int) (RA : Option Addr) (rc : Nat) (roots : List IDE) (w : World) (H : NodesAt w A l) (hR : SlAt IDE.cells 2 w RA roots) (hl : l.length ≤ 10000) (hf : ∀ n ∈ l, n.fields.length ≤ 10000) (hr : roots.length ≤ 10000) :
    Calls Try.prog 18 #[.agg #[.slice A l.length c], .int .i64 n, .slice RA roots.length rc] w (LarP (conL l) roots n w) := by
  have HT : ∀ u [Later w u], Calls Try.prog 15 #[.agg #[.slice A l.length c], .slice RA roots.length rc] u (SizP (conL l) roots u) := fun u i => sizes_any A c l RA rc roots u (H.below i.below) (hR.below i.below) hl hf hr
  go_enter Try.func18, Try.ntmps18
  go_upto_region 1 with fail
  refine wp_name ?_
  intro w1 hw1
  obtain ⟨B0, l1⟩ := box1 hw1
  clear hw1
  have hmm := @run_makeMap Try.prog
  go_upto_region 2 with (go_at_call 15; refine (HT _).mono ?_; intro r w2 hh; obtain ⟨q, s, QA, QC, SA, SC, rfl, hq, hoq, hos, hap, hb2⟩ := hh; have l2 := later hb2)
  have hqn := hq.out.1
  have hsl := hide hq.out.2.1.1
  have hql : q.length ≤ 10000 := by
    have h1 := reach_len (l := conL l) hqn.1.nodup (fun x hx => firstN_ids.1 ((hqn.2 x).1 hx).node)
    have e : (conL l).length = l.length := by unfold conL; rw [List.length_map]
    omega
  go_upto_region 3 with fail
  refine wp_name ?_
  intro w3 hw3
  have h3m : w3.heap[w2.heap.size]? = some (.map #[] 0) := (by rw [← hw3]; simp only [heap_alloc_if, World.size_alloc]; repeat (first | rw [if_pos trivial] | rw [if_neg (by omega)] | rw [if_pos (by omega)]); try rfl)
  have h3b : w3.heap[w2.heap.size + 1]? = some (.cells #[.map (some w2.heap.size)] 73 (0, 0)) := (by rw [← hw3]; simp only [heap_alloc_if, World.size_alloc]; repeat (first | rw [if_pos trivial] | rw [if_neg (by omega)] | rw [if_pos (by omega)]); try rfl)
  have hb3 : Below w2.heap.size w2 w3 := by rw [← hw3]; exact (by repeat (first | with_reducible exact Below.refl _ _ | (with_reducible refine Below.drew ?_) | (with_reducible refine below_drewN ?_ _) | (with_reducible refine Below.alloc ?_ ?_ _; rotate_left; (first | omega | (simp <;> omega))) | (with_reducible refine Below.setCell ?_ ?_ _; rotate_left; (first | omega | (simp <;> omega)))))
  have hM3 : MapFn IDE.vv (Value.int .i64) w3 w2.heap.size (sizM (conL l) roots q 0) := by rw [sizM_zero]; exact ⟨#[], 0, h3m, by simp, by simp, by simp⟩
  have l3 := later hb3
  clear hw3 h3m hmm
  go_upto_region 4 with fail
  go_loopw [21] (fun kv wr => ∃ k : Nat, k ≤ q.length ∧ kv = .int .i64 k ∧ MapFn IDE.vv (Value.int .i64) wr w2.heap.size (sizM (conL l) roots q k) ∧ wr.heap[w2.heap.size + 1]? = some (.cells #[.map (some w2.heap.size)] 73 (0, 0)) ∧ Below w2.heap.size w2 wr) (fun kv _ => q.length - (intOf kv).toNat)
  case atStart => exact ⟨0, by omega, rfl, hM3, h3b, hb3⟩
  case round =>
    obtain ⟨k, hk, rfl, hMr, hbx, hbr⟩ := hrel
    have lr := later hbr
    have lrr : Later wr wr := Later.refl
    by_cases hlt : k < q.length
    · have hki : (k : Int) < (q.length : Int) := by omega
      obtain ⟨y, hy⟩ : ∃ y, q[k]? = some y := ⟨_, List.getElem?_eq_getElem hlt⟩
      obtain ⟨b9, o9, rfl, C1, C2⟩ := id_at ((hoq.at_ IDE.enc).2.2) hy
      obtain ⟨z, hz⟩ : ∃ z, z = sizeI (conL l) roots y := ⟨_, rfl⟩
      have hsk : s[k]? = some z := by rw [hz]; exact hq.out.2.1.get hy
      obtain ⟨b8, o8, rfl, C8⟩ := int_at ((hos.at_ I64.enc).2.2) hsk
      have hsu := hide (show mupd (sizM (conL l) roots q k) y z = sizM (conL l) roots q (k + 1) by rw [hz]; exact sizM_succ hy)
      obtain ⟨U, hU1, hU2, hU3, hU4⟩ := run_store (ν := Int) (fv := Value.int .i64) keyI Try.underlying73 hMr
      have hU1' := fun (u : World) [Later wr u] => hU1 u y z
      have hU2' := hide (fun (u : World) (i : Later wr u) => hU2 u y z)
      have hU3' := hide (fun (u : World) (i : Later wr u) => hU3 u y z)
      clear hU1 hU2 hU3 hU4 hz hsk hy
      obtain ⟨y1, y2⟩ := y
      dsimp only [IDE.vv] at hU1'
      dsimp only at C1 C2
      have Xb := boxed hbx
      go_upto_region 6 with fail
      refine wp_name ?_
      intro w6 hw6
      obtain ⟨B11, l6⟩ := box1 hw6
      clear hw6
      have l66 : Later w6 w6 := Later.refl
      have HC : ∀ u : World, (∀ a v, w6.cell? a = some v → u.cell? a = some v) → u.cell? ⟨w2.heap.size + 1, 0, none⟩ = some (.map (some w2.heap.size)) ∧ u.cell? ⟨wr.heap.size, 0, none⟩ = some (.int .i64 y1) ∧ u.cell? ⟨wr.heap.size, 1, none⟩ = some (.int .i64 y2) ∧ u.cell? ⟨b8, o8 + k, none⟩ = some (.int .i64 z) := fun u hu =>
        ⟨hu _ _ (by have := ((Xb w6).2 0).1; simpa using this), hu _ _ (by have := ((B11 w6).2 0).1; simpa using this), hu _ _ (by have := ((B11 w6).2 1).1; simpa using this), hu _ _ (C8 w6)⟩
      refine wp_region_held_drew (S := fun w' => ∀ a v, w6.cell? a = some v → w'.cell? a = some v) (by kernel_rfl) (fun a v h => h) (fun hHeld => ?_)
      refine wpAnyH_take (i := 0) (oi := _) (v := ?_) rfl (by kernel_rfl) (by kernel_rfl) (by kernel_rfl) (fun _ _ _ h => h) (Or.inl ⟨by rfl, ?_⟩) (by assumption) ?_
      rotate_left 1
      · (intro wy hSw; (try dsimp only at hSw); obtain ⟨s1, s2, s3, s4⟩ := HC wy hSw; go_simp; try with_reducible rfl)
      (try simp only [Act.put, List.getElem_toArray, List.getElem_cons_succ, List.getElem_cons_zero, List.setIfInBounds_toArray, List.set_cons_zero, List.set_cons_succ])
      refine wpAnyH_take (i := 1) (oi := _) (v := ?_) rfl (by kernel_rfl) (by kernel_rfl) (by kernel_rfl) (fun _ _ _ h => h) (Or.inl ⟨by rfl, ?_⟩) (by assumption) ?_
      rotate_left 1
      · (intro wy hSw; (try dsimp only at hSw); obtain ⟨s1, s2, s3, s4⟩ := HC wy hSw; go_simp; try with_reducible rfl)
      (try simp only [Act.put, List.getElem_toArray, List.getElem_cons_succ, List.getElem_cons_zero, List.setIfInBounds_toArray, List.set_cons_zero, List.set_cons_succ])
      refine wpAnyH_take (i := 2) (oi := _) (v := ?_) rfl (by kernel_rfl) (by kernel_rfl) (by kernel_rfl) (fun _ _ _ h => h) (Or.inl ⟨by rfl, ?_⟩) (by assumption) ?_
      rotate_left 1
      · (intro wy hSw; (try dsimp only at hSw); obtain ⟨s1, s2, s3, s4⟩ := HC wy hSw; go_simp; try with_reducible rfl)
      (try simp only [Act.put, List.getElem_toArray, List.getElem_cons_succ, List.getElem_cons_zero, List.setIfInBounds_toArray, List.set_cons_zero, List.set_cons_succ])
      refine wpAnyH_take (i := 3) (oi := _) (v := ?_) rfl (by kernel_rfl) (by kernel_rfl) (by kernel_rfl) (fun _ _ _ h => h) (Or.inl ⟨by rfl, ?_⟩) (by assumption) ?_
      rotate_left 1
      · (intro wy hSw; (try dsimp only at hSw); obtain ⟨s1, s2, s3, s4⟩ := HC wy hSw; go_simp; try with_reducible rfl)
      (try simp only [Act.put, List.getElem_toArray, List.getElem_cons_succ, List.getElem_cons_zero, List.setIfInBounds_toArray, List.set_cons_zero, List.set_cons_succ])
      refine wpAnyH_take (i := 4) (oi := _) (v := ?_) rfl (by kernel_rfl) (by kernel_rfl) (by kernel_rfl) (fun _ _ _ h => h) (Or.inl ⟨by rfl, ?_⟩) (by assumption) ?_
      rotate_left 1
      · (intro wy hSw; (try dsimp only at hSw); obtain ⟨s1, s2, s3, s4⟩ := HC wy hSw; go_simp; try with_reducible rfl)
      (try simp only [Act.put, List.getElem_toArray, List.getElem_cons_succ, List.getElem_cons_zero, List.setIfInBounds_toArray, List.set_cons_zero, List.set_cons_succ])
      refine wpAnyH_take (i := 5) (oi := _) (v := ?_) rfl (by kernel_rfl) (by kernel_rfl) (by kernel_rfl) (fun _ _ _ h => h) (Or.inl ⟨by rfl, ?_⟩) (by assumption) ?_
      rotate_left 1
      · (intro wy hSw; (try dsimp only at hSw); obtain ⟨s1, s2, s3, s4⟩ := HC wy hSw; go_simp; try with_reducible rfl)
      (try simp only [Act.put, List.getElem_toArray, List.getElem_cons_succ, List.getElem_cons_zero, List.setIfInBounds_toArray, List.set_cons_zero, List.set_cons_succ])
      refine wpAnyH_ready (rs := [6]) (by kernel_rfl) (by simp) ?_
      refine AllReadyH.cons (o := _) rfl ?_ AllReadyH.nil
      intro K9 hK9
      go_simp
      refine hK9.out _ _ (fun a v h => (hU3'.out _ inferInstance a).trans (Later.cell h _)) (fun hHeld => ?_)
      clear hK9 K9
      refine wpAnyH_done (by kernel_rfl) ?_ _
      have hM7 := hU2'.out w6.drew inferInstance
      rw [hsu.out] at hM7
      have hb6d : Below w2.heap.size w2 w6.drew := hbr.trans (((l6 wr).below.mono hbr.size).drew)
      have hz6 := (l6 wr).below.size
      have hgM := hMr.lt
      have hbx7 : (putAt w6.drew w2.heap.size (U ⟨y1, y2⟩ z)).heap[w2.heap.size + 1]? = some (.cells #[.map (some w2.heap.size)] 73 (0, 0)) := (putAt_heap (by omega)).trans (blk_below hbx (l6 wr).below.drew)
      have hb7 : Below w2.heap.size w2 (putAt w6.drew w2.heap.size (U ⟨y1, y2⟩ z)) := putAt_below hb6d (Nat.le_refl _)
      generalize putAt w6.drew w2.heap.size (U ⟨y1, y2⟩ z) = w7 at hM7 hbx7 hb7 ⊢
      go_wp2_with fail
      go_roundw
      case rel => exact ⟨k + 1, by omega, by go_num, hM7, hbx7, hb7⟩
      case measure => simp [intOf]; omega
    · have hkk : k = q.length := by omega
      subst hkk
      have hbw : Below w.heap.size w w1 := below_of
      have hz12 := hb2.size
      have hsb := sortBig (sizM (conL l) roots q q.length) (w2.heap.size + 1) w2.heap.size QA QC q w1.heap.size wr (hoq.below hbr) (by omega) (Nat.le_trans hz12 hbr.size) hbx hMr
      obtain ⟨N, hN⟩ : ∃ N, N = (min (max n 0) (q.length : Int)).toNat := ⟨_, rfl⟩
      have hNle : N ≤ q.length := by omega
      have hNi : min (max n 0) (q.length : Int) = (N : Int) := by omega
      have hcap := (hoq.at_ IDE.enc).2.1
      have HN := hide hN
      clear hN hqn
      go_upto_region 9 with (go_at_call 39; refine hsb.mono ?_; rintro r w9 ⟨rfl, T, hT1, hT2, ho9, hb9⟩)
      have hb19 : Below w1.heap.size w1 w9 := (hb2.trans (hbr.mono hz12)).trans hb9
      have l9 := later hb19
      go_wp2_with fail
      go_ret
      have hp := hT2.perm (ltS_swo _)
      have hTl := hide (show N = (T.take N).length by rw [List.length_take, hp.length_eq]; omega)
      have hS := ((ho9.at_ IDE.enc).2.2).take N
      refine ⟨T.take N, QA, QC, by rw [← hTl.out]; rfl, hide ⟨?_, hq.out.2.2⟩, hS, below_of⟩
      rw [HN.out]
      exact LarL.of hq.out.1 hT1 hT2 hp
end Go.Proofs.Ytffnogjgnpbjlaa

/-
  The reference's Dominators. Conditions: lengths up to 10000.
-/
import Derived.Test.YtffnogjgnpbjlaaGrp11
set_option linter.unusedSimpArgs false
set_option linter.unusedVariables false
namespace Go.Proofs.Ytffnogjgnpbjlaa
open Go.RowKit
attribute [local go_sem] Oper.semAt_some
attribute [local go_sem ↓] run_eql_id run_neq_id
attribute [local simp] heap_drew
theorem idTQ : ElemT Try.prog 25 46 2 16 := ElemT.mk' (z := .agg #[.int .i64 0, .int .i64 0]) Try.underlying25 (by kernel_rfl) rfl
/-- A list of identities in memory. -/
structure KE where
  A : Option Addr
  c : Nat
  l : List IDE
def KE.cells (x : KE) : List Value := [.slice x.A x.l.length x.c]
abbrev KE.v (x : KE) : Value := .slice x.A x.l.length x.c
theorem KE.enc : Enc KE.cells 1 := ⟨fun _ => rfl, fun x u hu => by simp only [KE.cells, List.mem_cons, List.not_mem_nil, or_false] at hu; subst hu; rfl, by decide⟩
theorem keT : ElemT Try.prog 43 25 1 24 := ElemT.mk' (z := .slice none 0 0) Try.underlying43 (by kernel_rfl) rfl
/-- The lists that were kept. -/
def Kept (L : List NodeC) (roots q : List IDE) (k : Nat) (ks : List KE) : Prop := ks.length = k ∧ ∀ (j : Nat) (x : KE), ks[j]? = some x → ∃ y, q[j]? = some y ∧ RetL L roots y x.l
theorem Kept.succ {L : List NodeC} {roots q : List IDE} {k : Nat} {ks : List KE} {y : IDE} {x : KE} (h : Kept L roots q k ks) (hy : q[k]? = some y) (hx : RetL L roots y x.l) : Kept L roots q (k + 1) (ks ++ [x]) := by
  refine ⟨by rw [List.length_append, h.1]; rfl, fun j z hz => ?_⟩
  rcases Nat.lt_or_ge j ks.length with hj | hj
  · rw [List.getElem?_append_left hj] at hz
    exact h.2 j z hz
  · rw [List.getElem?_append_right hj] at hz
    have : j = ks.length := by
      have := get_lt hz
      simp at this
      omega
    subst this
    rw [Nat.sub_self] at hz
    injection hz with hz
    subst hz
    rw [h.1]
    exact ⟨y, hy, hx⟩
/-- The best of the first k that retain y, the i-th. -/
def BestP (L : List NodeC) (roots q : List IDE) (i : Nat) (y : IDE) (k : Nat) (best : IDE) (least : Int) : Prop :=
  (best = ⟨0, 0⟩ ∧ least = (q.length : Int) + 1 ∧ ∀ (j : Nat) (x : IDE), j < k → j ≠ i → q[j]? = some x → ¬ RetP L roots x y) ∨
    (∃ p, RetP L roots best y ∧ best ≠ y ∧ RetL L roots best p ∧ least = (p.length : Int) ∧ ∀ (j : Nat) (x : IDE) (p' : List IDE), j < k → j ≠ i → q[j]? = some x → RetP L roots x y → RetL L roots x p' → p.length ≤ p'.length)
section
variable {L : List NodeC} {roots q : List IDE} {i k : Nat} {y x best : IDE} {least : Int}
theorem BestP.zero : BestP L roots q i y 0 ⟨0, 0⟩ ((q.length : Int) + 1) := .inl ⟨rfl, rfl, fun j x h => by omega⟩
theorem BestP.bound (hq : ReachL L roots q) (h : BestP L roots q i y k best least) : 0 ≤ least ∧ least ≤ (q.length : Int) + 1 := by
  rcases h with ⟨_, h, _⟩ | ⟨p, _, _, h1, h2, _⟩
  · omega
  · have := nodup_len h1.1.nodup (fun z hz => (hq.2 z).2 ((h1.2 z).1 hz).1)
    omega
/-- Nothing new. -/
theorem BestP.skip (h : BestP L roots q i y k best least) (hx : q[k]? = some x) (hn : k ≠ i → ¬ RetP L roots x y) : BestP L roots q i y (k + 1) best least := by
  have key : ∀ (j : Nat) (x' : IDE), j < k + 1 → j ≠ i → q[j]? = some x' → RetP L roots x' y → j < k := fun j x' h1 h2 h3 h4 => by
    rcases Nat.lt_or_ge j k with h5 | h5
    · exact h5
    · have : j = k := by omega
      subst this
      rw [hx] at h3
      injection h3 with h3
      subst h3
      exact absurd h4 (hn h2)
  rcases h with ⟨h1, h2, h3⟩ | ⟨p, h1, h2, h3, h4, h5⟩
  · exact .inl ⟨h1, h2, fun j x' a b c d => h3 j x' (key j x' a b c d) b c d⟩
  · exact .inr ⟨p, h1, h2, h3, h4, fun j x' p' a b c d e => h5 j x' p' (key j x' a b c d) b c d e⟩
/-- Not less. -/
theorem BestP.more (hq : ReachL L roots q) (h : BestP L roots q i y k best least) (hx : q[k]? = some x) {p : List IDE} (hp : RetL L roots x p) (hle : ¬ (p.length : Int) < least) : BestP L roots q i y (k + 1) best least := by
  rcases h with ⟨h1, h2, h3⟩ | ⟨p0, h1, h2, h3, h4, h5⟩
  · have := nodup_len hp.1.nodup (fun z hz => (hq.2 z).2 ((hp.2 z).1 hz).1)
    omega
  · refine .inr ⟨p0, h1, h2, h3, h4, fun j x' p' a b c d e => ?_⟩
    rcases Nat.lt_or_ge j k with h6 | h6
    · exact h5 j x' p' h6 b c d e
    · have : j = k := by omega
      subst this
      rw [hx] at c
      injection c with c
      subst c
      rw [← hp.unique e]
      omega
/-- A better one. -/
theorem BestP.take (hq : ReachL L roots q) (h : BestP L roots q i y k best least) (hy : q[i]? = some y) (hx : q[k]? = some x) (hki : k ≠ i) (hr : RetP L roots x y) {p : List IDE} (hp : RetL L roots x p) (hle : (p.length : Int) < least) : BestP L roots q i y (k + 1) x (p.length : Int) := by
  refine .inr ⟨p, hr, fun e => hki ?_, hp, rfl, fun j x' p' a b c d e => ?_⟩
  · subst e; exact nodup_idx hq.1.nodup hx hy
  · rcases Nat.lt_or_ge j k with h6 | h6
    · rcases h with ⟨h1, h2, h3⟩ | ⟨p0, h1, h2, h3, h4, h5⟩
      · exact absurd d (h3 j x' h6 b c)
      · have := h5 j x' p' h6 b c d e
        omega
    · have : j = k := by omega
      subst this
      rw [hx] at c
      injection c with c
      subst c
      rw [← hp.unique e]
      omega
theorem BestP.idom {ids : List IDE} {d : Nat → Int} (T : TreeOk L roots ids d) (hq : ReachL L roots q) (h : BestP L roots q i y q.length best least) (hy : q[i]? = some y) : IdomZ L roots y best := by
  have key : ∀ x, RetP L roots x y → x ≠ y → ∃ j, j < q.length ∧ j ≠ i ∧ q[j]? = some x := fun x hx hne => by
    obtain ⟨j, hj⟩ := List.getElem?_of_mem ((hq.2 x).2 hx.reach)
    refine ⟨j, get_lt hj, fun e => ?_, hj⟩
    subst e
    rw [hy] at hj
    injection hj with hj
    exact hne hj.symm
  rcases h with ⟨h1, _, h3⟩ | ⟨p, h1, h2, h3, h4, h5⟩
  · refine .inl ⟨h1, fun x hx => ?_⟩
    by_cases hne : x = y
    · exact hne
    · obtain ⟨j, a, b, c⟩ := key x hx hne
      exact absurd hx (h3 j x a b c)
  · refine T.least h1 h2 h3 (fun x p' hx hne hp' => ?_) (fun x _ => retL_exists L roots x)
    obtain ⟨j, a, b, c⟩ := key x hx hne
    exact h5 j x p' a b c hx hp'
end
theorem ke_at {A : Option Addr} {l : List KE} {w : World} (h : SlAt KE.cells 1 w A l) {k : Nat} {x : KE} (hx : l[k]? = some x) : ∃ b off, A = some ⟨b, off, none⟩ ∧ ∀ u [Later w u], u.cell? ⟨b, off + k, none⟩ = some (.slice x.A x.l.length x.c) := by
  obtain ⟨b, off, e, hlt, hc⟩ := h (by rintro rfl; simp at hx)
  refine ⟨b, off, e, Later.cell (b := w) ?_⟩
  have := hc k x hx 0 _ rfl
  simpa using this
set_option maxRecDepth 100000 in
set_option maxHeartbeats 8000000 in
theorem refDoms_any (A : Option Addr) (c : Nat) (l : List NodeE) (RA : Option Addr) (rc : Nat) (roots : List IDE) (w : World) (H : NodesAt w A l) (hR : SlAt IDE.cells 2 w RA roots) (hl : l.length ≤ 10000) (hf : ∀ n ∈ l, n.fields.length ≤ 10000) (hr : roots.length ≤ 10000) {ids0 : List IDE} {d0 : Nat → Int} (T : TreeOk (conL l) roots ids0 d0) :
    Calls Try.prog 13 #[.agg #[.slice A l.length c], .slice RA roots.length rc] w (DomP (conL l) roots w) := by
  have HR16 : ∀ u [Later w u], Calls Try.prog 36 #[.agg #[.slice A l.length c], .slice RA roots.length rc] u (ReachPost (conL l) roots u) := fun u i => reach16_any A c l RA rc roots u (H.below i.below) (hR.below i.below) hl hf hr
  have HRet : ∀ (x : IDE) (u : World) [Later w u], Calls Try.prog 37 #[.agg #[.slice A l.length c], x.v, .slice RA roots.length rc] u (RetPP (conL l) roots x u) := fun x u i => refRet_any A c l x RA rc roots u (H.below i.below) (hR.below i.below) hl hf hr
  have hll : (conL l).length ≤ 10000 := by unfold conL; rw [List.length_map]; exact hl
  have HT := hide T
  clear T
  go_enter Try.func13, Try.ntmps13
  go_upto_region 1 with fail
  refine wp_name ?_
  intro w1 hw1
  obtain ⟨B0, l1⟩ := box1 hw1
  clear hw1
  go_upto_region 2 with (go_at_call 36; refine (HR16 _).mono ?_; rintro r w2 ⟨q, QA, QC, hq, rfl, hoq, hb2⟩; have l2 := later hb2)
  have hql : q.length ≤ 10000 := by
    have := reach_len (l := conL l) hq.1.nodup (fun z hz => firstN_ids.1 ((hq.2 z).1 hz).node)
    omega
  have Hq := hide hq
  clear hq HR16
  have hS2 := (hoq.at_ IDE.enc).2.2
  go_upto_region 3 with fail
  refine wp_name ?_
  intro w3 hw3
  have hk3 : Own KE.cells 1 25 w2.heap.size w3 (.slice (some ⟨w2.heap.size, 0, none⟩) 0 0) ([] : List KE) := Own.empty_blk (Nat.le_refl _) (by rw [← hw3]; exact heap_alloc_new _ _)
  have hb3 : Below w2.heap.size w2 w3 := by rw [← hw3]; exact (by repeat (first | with_reducible exact Below.refl _ _ | (with_reducible refine Below.drew ?_) | (with_reducible refine below_drewN ?_ _) | (with_reducible refine Below.alloc ?_ ?_ _; rotate_left; (first | omega | (simp <;> omega))) | (with_reducible refine Below.setCell ?_ ?_ _; rotate_left; (first | omega | (simp <;> omega)))))
  clear hw3
  have lw2 : Later w w2 := by infer_instance
  go_wp2_with fail
  go_loopw [7, 8] (fun ov kv wr => ∃ (k : Nat) (ks : List KE) (KA : Option Addr) (KC : Nat), k ≤ q.length ∧ kv = .int .i64 k ∧ ov = .slice KA k KC ∧ Hid (Kept (conL l) roots q k ks) ∧ Own KE.cells 1 25 w2.heap.size wr (.slice KA k KC) ks ∧ Hid (∀ x ∈ ks, Own IDE.cells 2 46 w2.heap.size wr x.v x.l) ∧ Below w2.heap.size w2 wr) (fun _ kv _ => q.length - (intOf kv).toNat)
  case atStart => exact ⟨0, [], _, _, by omega, rfl, rfl, hide ⟨rfl, fun j x h => by cases h⟩, hk3, hide (fun x h => by cases h), hb3⟩
  case round =>
    obtain ⟨k, ks, KA, KC, hk, rfl, rfl, hks, hok, hoe, hbr⟩ := hrel
    have lr := later hbr
    have lrr : Later wr wr := Later.refl
    by_cases hlt : k < q.length
    · have hki : (k : Int) < (q.length : Int) := by omega
      obtain ⟨y, hy⟩ : ∃ y, q[k]? = some y := ⟨_, List.getElem?_eq_getElem hlt⟩
      obtain ⟨b9, o9, rfl, C1, C2⟩ := id_at hS2 hy
      have Hy := hide hy
      have HRy := fun (u : World) (j : Later w u) => HRet y u
      have hkl := hide (show ks.length + 1 = k + 1 by rw [hks.out.1])
      clear hy
      obtain ⟨y1, y2⟩ := y
      dsimp only at C1 C2
      dsimp only [IDE.v] at HRy
      go_upto_region 6 with fail
      refine wp_region_held_drew (S := fun w' => ∀ b [Later b w2], Later b w') (by kernel_rfl) (fun b _ => inferInstance) (fun hHeld => ?_)
      have hdr : ∀ b [Later b wr], Later b wr.drew := fun b _ => inferInstance
      have hok' := hok.below (show Below wr.heap.size wr wr.drew from (Below.refl _ _).drew)
      obtain ⟨wz, hwz⟩ : ∃ z, z = wr.drew := ⟨_, rfl⟩
      rw [← hwz] at hHeld hdr hok' ⊢
      clear hwz
      have lz := hdr wr
      refine wpAnyH_take (i := 0) (oi := _) (v := ?_) rfl (by kernel_rfl) (by kernel_rfl) (by kernel_rfl) (fun _ _ _ h => h) (Or.inl ⟨by rfl, ?_⟩) (by assumption) ?_
      rotate_left 1
      · (intro wy hSw; (try dsimp only at hSw); go_simp; try with_reducible rfl)
      (try simp only [Act.put, List.getElem_toArray, List.getElem_cons_succ, List.getElem_cons_zero, List.setIfInBounds_toArray, List.set_cons_zero, List.set_cons_succ])
      refine wpAnyH_take (i := 1) (oi := _) (v := ?_) rfl (by kernel_rfl) (by kernel_rfl) (by kernel_rfl) (fun _ _ _ h => h) (Or.inl ⟨by rfl, ?_⟩) (by assumption) ?_
      rotate_left 1
      · (intro wy hSw; (try dsimp only at hSw); go_simp; try with_reducible rfl)
      (try simp only [Act.put, List.getElem_toArray, List.getElem_cons_succ, List.getElem_cons_zero, List.setIfInBounds_toArray, List.set_cons_zero, List.set_cons_succ])
      refine wpAnyH_take (i := 2) (oi := _) (v := ?_) rfl (by kernel_rfl) (by kernel_rfl) (by kernel_rfl) (fun _ _ _ h => h) (Or.inl ⟨by rfl, ?_⟩) (by assumption) ?_
      rotate_left 1
      · (intro wy hSw; (try dsimp only at hSw); go_simp; try with_reducible rfl)
      (try simp only [Act.put, List.getElem_toArray, List.getElem_cons_succ, List.getElem_cons_zero, List.setIfInBounds_toArray, List.set_cons_zero, List.set_cons_succ])
      refine wpAnyH_take (i := 3) (oi := _) (v := ?_) rfl (by kernel_rfl) (by kernel_rfl) (by kernel_rfl) (fun _ _ _ h => h) (Or.inl ⟨by rfl, ?_⟩) (by assumption) ?_
      rotate_left 1
      · (intro wy hSw; (try dsimp only at hSw); go_simp; try with_reducible rfl)
      (try simp only [Act.put, List.getElem_toArray, List.getElem_cons_succ, List.getElem_cons_zero, List.setIfInBounds_toArray, List.set_cons_zero, List.set_cons_succ])
      refine wpAnyH_take (i := 4) (oi := _) (v := ?_) rfl (by kernel_rfl) (by kernel_rfl) (by kernel_rfl) (fun _ _ _ h => h) (Or.inl ⟨by rfl, ?_⟩) (by assumption) ?_
      rotate_left 1
      · (intro wy hSw; (try dsimp only at hSw); go_simp; try with_reducible rfl)
      (try simp only [Act.put, List.getElem_toArray, List.getElem_cons_succ, List.getElem_cons_zero, List.setIfInBounds_toArray, List.set_cons_zero, List.set_cons_succ])
      refine wpAnyH_take (i := 5) (oi := _) (v := ?_) rfl (by kernel_rfl) (by kernel_rfl) (by kernel_rfl) (fun _ _ _ h => h) (Or.inl ⟨by rfl, ?_⟩) (by assumption) ?_
      rotate_left 1
      · (intro wy hSw; (try dsimp only at hSw); go_simp; try with_reducible rfl)
      (try simp only [Act.put, List.getElem_toArray, List.getElem_cons_succ, List.getElem_cons_zero, List.setIfInBounds_toArray, List.set_cons_zero, List.set_cons_succ])
      refine wpAnyH_take (i := 6) (oi := _) (v := ?_) rfl (by kernel_rfl) (by kernel_rfl) (by kernel_rfl) (fun _ _ _ h => h) (Or.inl ⟨by rfl, ?_⟩) (by assumption) ?_
      rotate_left 1
      · (intro wy hSw; (try dsimp only at hSw); go_simp; try with_reducible rfl)
      (try simp only [Act.put, List.getElem_toArray, List.getElem_cons_succ, List.getElem_cons_zero, List.setIfInBounds_toArray, List.set_cons_zero, List.set_cons_succ])
      refine wpAnyH_ready (rs := [7]) (by kernel_rfl) (by simp) ?_
      refine AllReadyH.cons (o := _) rfl ?_ AllReadyH.nil
      intro K9 hK9
      go_simp
      refine (HRy wz inferInstance).mono ?_
      rintro r w5 ⟨p, PA, PC, rfl, hp, hop, hb5⟩
      have l5 := later hb5
      (try dsimp only)
      refine hK9.out _ _ (fun b _ => inferInstance) (fun hHeld2 => ?_)
      clear hK9 K9 hHeld
      (try simp only [Act.put, List.getElem_toArray, List.getElem_cons_succ, List.getElem_cons_zero, List.setIfInBounds_toArray, List.set_cons_zero, List.set_cons_succ])
      refine wpAnyH_ready (rs := [8]) (by kernel_rfl) (by simp) ?_
      refine AllReadyH.cons (o := _) rfl ?_ AllReadyH.nil
      intro K9 hK9
      go_simp
      refine hK9.out _ _ (fun b _ => inferInstance) (fun hHeld => ?_)
      clear hK9 K9 hHeld2
      (try simp only [Act.put, List.getElem_toArray, List.getElem_cons_succ, List.getElem_cons_zero, List.setIfInBounds_toArray, List.set_cons_zero, List.set_cons_succ])
      obtain ⟨w6, hw6⟩ : ∃ z, z = w5.alloc (.cells #[.slice PA p.length PC] 25 (0, 0)) := ⟨_, rfl⟩
      have kx : w6.heap[w5.heap.size]? = some (.cells #[.slice PA p.length PC] 25 (0, 0)) := by rw [hw6]; exact heap_alloc_new _ _
      have hb56 : Below w5.heap.size w5 w6 := by rw [hw6]; exact (by repeat (first | with_reducible exact Below.refl _ _ | (with_reducible refine Below.drew ?_) | (with_reducible refine below_drewN ?_ _) | (with_reducible refine Below.alloc ?_ ?_ _; rotate_left; (first | omega | (simp <;> omega))) | (with_reducible refine Below.setCell ?_ ?_ _; rotate_left; (first | omega | (simp <;> omega)))))
      rw [← hw6]
      have hrz : Below wr.heap.size wr wz := lz.below
      have hb26 : Below w2.heap.size w2 w6 := hbr.trans ((hrz.trans ((hb5.mono hrz.size).trans (hb56.mono (Nat.le_trans hrz.size hb5.size)))).mono hbr.size)
      have hb5r : Below wr.heap.size wr w6 := hrz.trans ((hb5.mono hrz.size).trans (hb56.mono (Nat.le_trans hrz.size hb5.size)))
      clear hw6 hHeld
      have hok6 := (hok'.below hb5).below hb56
      have hz6 := hb26.size
      refine wpAnyH_ready (rs := [9]) (by kernel_rfl) (by simp) ?_
      refine AllReadyH.cons (o := _) rfl ?_ AllReadyH.nil
      intro K9 hK9
      refine step_app2 rfl (.tmp 24) (.tmp 32) (by rfl) KE.enc keT _ _ [(⟨PA, PC, p⟩ : KE)] ks (.slice KA k KC) (by rfl) (by rfl) (m := 1) (n := k + 1) rfl hkl.out hok6 (blk_slAt KE.enc (fr := (0, 0)) (e := 25) kx [(⟨PA, PC, p⟩ : KE)] rfl) (by omega) (by unfold maxLen; omega) hz6 ?_
      intro A7 c7 w7 ho7 hm7 hst
      have hb27 : Below w2.heap.size w2 w7 := hok6.belowGrown hb26 hst.1 (Nat.le_refl _) hz6
      have hoe7 := hide (show ∀ x ∈ ks ++ [(⟨PA, PC, p⟩ : KE)], Own IDE.cells 2 46 w2.heap.size w7 x.v x.l from fun x hx => by
        rcases List.mem_append.1 hx with hx | hx
        · exact own_grownOwn hok6 hst.1 ((hoe.out x hx).below hb5r) (by decide)
        · rw [List.mem_singleton] at hx
          subst hx
          exact own_grownOwn hok6 hst.1 ((hop.mono (Nat.le_trans hbr.size hrz.size)).below hb56) (by decide))
      have l7 := later hb27
      refine hK9.out _ _ (fun b _ => inferInstance) (fun hHeld => ?_)
      clear hK9 K9
      (try simp only [Act.put, List.getElem_toArray, List.getElem_cons_succ, List.getElem_cons_zero, List.setIfInBounds_toArray, List.set_cons_zero, List.set_cons_succ])
      refine wpAnyH_take (i := 10) (oi := _) (v := ?_) rfl (by kernel_rfl) (by kernel_rfl) (by kernel_rfl) (fun _ _ _ h => h) (Or.inl ⟨by rfl, ?_⟩) (by assumption) ?_
      rotate_left 1
      · (intro wy hSw; (try dsimp only at hSw); go_simp; try with_reducible rfl)
      (try simp only [Act.put, List.getElem_toArray, List.getElem_cons_succ, List.getElem_cons_zero, List.setIfInBounds_toArray, List.set_cons_zero, List.set_cons_succ])
      refine wpAnyH_done (by kernel_rfl) ?_ _
      clear hHeld hok6 hst hb26 hb5r hb56 kx lz hrz hdr
      go_wp2_with fail
      go_roundw
      case rel => exact ⟨k + 1, ks ++ [⟨PA, PC, p⟩], A7, c7, by omega, by go_num, rfl, hide (hks.out.succ Hy.out hp.out), ho7, hoe7, hb27⟩
      case measure => simp [intOf]; omega
    · have hkk : k = q.length := by omega
      subst hkk
      obtain ⟨wL, rfl⟩ : ∃ z, z = wr := ⟨_, rfl⟩
      have lLL : Later wL wL := Later.refl
      have hz2L := hbr.size
      have HQ := fun (u : World) (j : Later wL u) => hS2.below ((later hbr w2).trans j).below
      have hSK := (hok.at_ KE.enc).2.2
      have hw22 : IntKind.i64.wrap ((q.length : Int) + 1) = (q.length : Int) + 1 := by rw [IntKind.wrap_i64]; omega
      go_upto_region 8 with fail
      refine wp_name ?_
      intro w4 hw4
      have hz4 : Own IDE.cells 2 46 wL.heap.size w4 (.slice (some ⟨wL.heap.size, 0, none⟩) 0 0) ([] : List IDE) := Own.empty_blk (Nat.le_refl _) (by rw [← hw4]; exact heap_alloc_new _ _)
      have hb4 : Below wL.heap.size wL w4 := by rw [← hw4]; exact (by repeat (first | with_reducible exact Below.refl _ _ | (with_reducible refine Below.drew ?_) | (with_reducible refine below_drewN ?_ _) | (with_reducible refine Below.alloc ?_ ?_ _; rotate_left; (first | omega | (simp <;> omega))) | (with_reducible refine Below.setCell ?_ ?_ _; rotate_left; (first | omega | (simp <;> omega)))))
      clear hw4
      go_wp2_with fail
      go_loopw [9, 10] (fun ov kv wr => ∃ (i : Nat) (z : List IDE) (ZA : Option Addr) (ZC : Nat), i ≤ q.length ∧ kv = .int .i64 i ∧ ov = .slice ZA i ZC ∧ Hid (z.length = i ∧ ∀ (j : Nat) (y : IDE), j < i → q[j]? = some y → ∃ t, z[j]? = some t ∧ IdomZ (conL l) roots y t) ∧ Own IDE.cells 2 46 wL.heap.size wr (.slice ZA i ZC) z ∧ Below wL.heap.size wL wr) (fun _ kv _ => q.length - (intOf kv).toNat)
      case atStart => exact ⟨0, [], _, _, by omega, rfl, rfl, hide ⟨rfl, fun j y h => by omega⟩, hz4, hb4⟩
      case round =>
        obtain ⟨i, z, ZA, ZC, hi, rfl, rfl, hz, hoz, hbz⟩ := hrel
        have lr := later hbz
        have lrr : Later wr wr := Later.refl
        by_cases hlt : i < q.length
        · have hii : (i : Int) < (q.length : Int) := by omega
          obtain ⟨y, hy⟩ : ∃ y, q[i]? = some y := ⟨_, List.getElem?_eq_getElem hlt⟩
          obtain ⟨bq, oq, rfl, Y1, Y2⟩ := id_at (HQ wL inferInstance) hy
          have Hy := hide hy
          have hzl := hide (show z.length + 1 = i + 1 by rw [hz.out.1])
          clear hy
          obtain ⟨y1, y2⟩ := y
          dsimp only at Y1 Y2
          obtain ⟨wO, rfl⟩ : ∃ z, z = wr := ⟨_, rfl⟩
          have hzO := hbz.size
          go_upto_region 12 with fail
          refine wp_name ?_
          intro w5 hw5
          have h5g : w5.heap[wO.heap.size]? = some (.cells #[.int .i64 0, .int .i64 0] 46 (0, 0)) := by rw [← hw5]; exact heap_alloc_new _ _
          have hb5 : Below wO.heap.size wO w5 := by rw [← hw5]; exact (by repeat (first | with_reducible exact Below.refl _ _ | (with_reducible refine Below.drew ?_) | (with_reducible refine below_drewN ?_ _) | (with_reducible refine Below.alloc ?_ ?_ _; rotate_left; (first | omega | (simp <;> omega))) | (with_reducible refine Below.setCell ?_ ?_ _; rotate_left; (first | omega | (simp <;> omega)))))
          clear hw5
          go_wp2_with fail
          go_loopw [12, 13] (fun lv kv wr => ∃ (k : Nat) (c1 c2 least : Int), k ≤ q.length ∧ kv = .int .i64 k ∧ lv = .int .i64 least ∧ wr.heap[wO.heap.size]? = some (.cells #[.int .i64 c1, .int .i64 c2] 46 (0, 0)) ∧ Hid (BestP (conL l) roots q i ⟨y1, y2⟩ k ⟨c1, c2⟩ least) ∧ Below wO.heap.size wO wr) (fun _ kv _ => q.length - (intOf kv).toNat)
          case atStart => exact ⟨0, 0, 0, (q.length : Int) + 1, by omega, rfl, rfl, h5g, hide BestP.zero, hb5⟩
          case round =>
            obtain ⟨k, c1, c2, least, hk, rfl, rfl, hbx, hbest, hbk⟩ := hrel
            have lk := later hbk
            have lrr : Later wr wr := Later.refl
            have lLr : Later wL wr := ⟨hbz.trans (hbk.mono hzO)⟩
            obtain ⟨hl0, hl1⟩ := hbest.out.bound Hq.out
            by_cases hltk : k < q.length
            · have hkii : (k : Int) < (q.length : Int) := by omega
              obtain ⟨x, hx⟩ : ∃ x, q[k]? = some x := ⟨_, List.getElem?_eq_getElem hltk⟩
              obtain ⟨xk, hxk⟩ : ∃ xk, ks[k]? = some xk := ⟨_, List.getElem?_eq_getElem (by rw [hks.out.1]; exact hltk)⟩
              obtain ⟨x', hx', hrl⟩ := hks.out.2 k xk hxk
              have hxx' : x' = x := Option.some.inj (hx'.symm.trans hx)
              subst hxx'
              clear hx'
              obtain ⟨bx, ox, ex, X1, X2⟩ := id_at (HQ wL inferInstance) hx
              injection ex with ex
              injection ex with ex ex'
              subst ex ex'
              obtain ⟨bK, oK, rfl, XK⟩ := ke_at hSK hxk
              have hpl : xk.l.length ≤ 10000 := Nat.le_trans (nodup_len hrl.1.nodup (fun z hz => (Hq.out.2 z).2 ((hrl.2 z).1 hz).1)) hql
              have hSx := ((hoe.out xk (List.mem_of_getElem? hxk)).at_ IDE.enc).2.2
              have HH := fun (u : World) (j : Later wL u) => has21_any xk.A xk.c xk.l ⟨y1, y2⟩ u (hSx.below j.below) (by omega)
              have Hx := hide hx
              have Hrl := hide hrl
              clear hx hrl hSx hxk
              obtain ⟨XA, XC, xl⟩ := xk
              obtain ⟨x1, x2⟩ := x'
              dsimp only at X1 X2 XK hpl HH Hrl
              dsimp only [IDE.v] at HH
              by_cases hki : k = i
              · subst hki
                have Hsk := hide (hbest.out.skip Hx.out (fun h => absurd rfl h))
                go_upto_region 15 with fail
                (refine wp_region_after (by kernel_rfl) (by kernel_rfl) ?_
                 repeat (any_goals (first | go_big_quiet_skip | (go_big_quiet_want; go_big_quiet_op; first | go_big_quiet_on | go_big_quiet_call (fail)) | quiet_step (fail) | (refine wpQuiet_step (fun K hK => ?_); go_simp; split <;> (refine hK _ ?_; clear hK K))))
                 all_goals (refine wpQuiet_nil ?_; intro _ hw'; obtain ⟨u', hw''⟩ := hw'; subst hw''; obtain ⟨wd, hbd⟩ := u'; simp only [After.val_mk]))
                have ld := later hbd
                go_wp2_with fail
                go_roundw
                case rel => exact ⟨k + 1, c1, c2, least, by omega, by go_num, rfl, blk_below hbx hbd, Hsk, hbk.trans (hbd.mono hbk.size)⟩
                case measure => simp [intOf]; omega
              · have hneb : ((k : Int) != (i : Int)) = true := by simp; omega
                cases hmem : decide ((⟨y1, y2⟩ : IDE) ∈ xl) with
                | false =>
                  have Hsk := hide (hbest.out.skip Hx.out (fun _ hr => of_decide_eq_false hmem ((Hrl.out.2 _).2 hr)))
                  simp only [hmem] at HH
                  clear hmem
                  go_upto_region 15 with fail
                  (refine wp_region_after (by kernel_rfl) (by kernel_rfl) ?_
                   repeat (any_goals (first | go_big_quiet_skip | (go_big_quiet_want; go_big_quiet_op; first | go_big_quiet_on | go_big_quiet_call ((go_at_call 24; exact Calls.after (HH _ inferInstance)))) | quiet_step ((go_at_call 24; exact Calls.after (HH _ inferInstance))) | (refine wpQuiet_step (fun K hK => ?_); go_simp; split <;> (refine hK _ ?_; clear hK K))))
                   all_goals (refine wpQuiet_nil ?_; intro _ hw'; obtain ⟨u', hw''⟩ := hw'; subst hw''; obtain ⟨wd, hbd⟩ := u'; simp only [After.val_mk]))
                  have ld := later hbd
                  go_wp2_with fail
                  go_roundw
                  case rel => exact ⟨k + 1, c1, c2, least, by omega, by go_num, rfl, blk_below hbx hbd, Hsk, hbk.trans (hbd.mono hbk.size)⟩
                  case measure => simp [intOf]; omega
                | true =>
                  have hmm := hide ((Hrl.out.2 ⟨y1, y2⟩).1 (of_decide_eq_true hmem))
                  simp only [hmem] at HH
                  clear hmem
                  by_cases hle : (xl.length : Int) < least
                  · have Htk := hide (hbest.out.take Hq.out Hy.out Hx.out hki hmm.out Hrl.out hle)
                    have hlt' : decide ((xl.length : Int) < least) = true := by simpa using hle
                    go_upto_region 15 with fail
                    (refine wp_region_after (by kernel_rfl) (by kernel_rfl) ?_
                     repeat (any_goals (first | go_big_quiet_skip | (go_big_quiet_want; go_big_quiet_op; first | go_big_quiet_on | go_big_quiet_call ((go_at_call 24; exact Calls.after (HH _ inferInstance)))) | quiet_step ((go_at_call 24; exact Calls.after (HH _ inferInstance))) | (refine wpQuiet_step (fun K hK => ?_); go_simp; split <;> (refine hK _ ?_; clear hK K))))
                     all_goals (refine wpQuiet_nil ?_; intro _ hw'; obtain ⟨u', hw''⟩ := hw'; subst hw''; obtain ⟨wd, hbd⟩ := u'; simp only [After.val_mk]))
                    have ld := later hbd
                    go_upto_region 16 with fail
                    have hbx2 := blk_below hbx hbd
                    have hbk2 := hbk.trans (hbd.mono hbk.size)
                    refine wp_region_held_drew (S := fun w' => ∀ b [Later b wL], Later b w') (by kernel_rfl) (fun b _ => inferInstance) (fun hHeld => ?_)
                    have lz : Later wL wd.drew := inferInstance
                    have hbxz : wd.drew.heap[wO.heap.size]? = some (.cells #[.int .i64 c1, .int .i64 c2] 46 (0, 0)) := by rw [heap_drew]; exact hbx2
                    have hbkz : Below wO.heap.size wO wd.drew := hbk2.drew
                    clear hbx2 hbk2 hbd ld
                    generalize wd.drew = wz at hHeld lz hbxz hbkz ⊢
                    have lzz : Later wz wz := Later.refl
                    have Xz := boxed hbxz
                    refine wpAnyH_take (i := 0) (oi := _) (v := ?_) rfl (by kernel_rfl) (by kernel_rfl) (by kernel_rfl) (fun _ _ _ h => h) (Or.inl ⟨by rfl, ?_⟩) (by assumption) ?_
                    rotate_left 1
                    · (intro wy hSw; (try dsimp only at hSw); go_simp; try with_reducible rfl)
                    (try simp only [Act.put, List.getElem_toArray, List.getElem_cons_succ, List.getElem_cons_zero, List.setIfInBounds_toArray, List.set_cons_zero, List.set_cons_succ])
                    refine wpAnyH_take (i := 1) (oi := _) (v := ?_) rfl (by kernel_rfl) (by kernel_rfl) (by kernel_rfl) (fun _ _ _ h => h) (Or.inl ⟨by rfl, ?_⟩) (by assumption) ?_
                    rotate_left 1
                    · (intro wy hSw; (try dsimp only at hSw); go_simp; try with_reducible rfl)
                    (try simp only [Act.put, List.getElem_toArray, List.getElem_cons_succ, List.getElem_cons_zero, List.setIfInBounds_toArray, List.set_cons_zero, List.set_cons_succ])
                    refine wpAnyH_take (i := 2) (oi := _) (v := ?_) rfl (by kernel_rfl) (by kernel_rfl) (by kernel_rfl) (fun _ _ _ h => h) (Or.inl ⟨by rfl, ?_⟩) (by assumption) ?_
                    rotate_left 1
                    · (intro wy hSw; (try dsimp only at hSw); go_simp; try with_reducible rfl)
                    (try simp only [Act.put, List.getElem_toArray, List.getElem_cons_succ, List.getElem_cons_zero, List.setIfInBounds_toArray, List.set_cons_zero, List.set_cons_succ])
                    refine wpAnyH_take (i := 3) (oi := _) (v := ?_) rfl (by kernel_rfl) (by kernel_rfl) (by kernel_rfl) (fun _ _ _ h => h) (Or.inl ⟨by rfl, ?_⟩) (by assumption) ?_
                    rotate_left 1
                    · (intro wy hSw; (try dsimp only at hSw); go_simp; try with_reducible rfl)
                    (try simp only [Act.put, List.getElem_toArray, List.getElem_cons_succ, List.getElem_cons_zero, List.setIfInBounds_toArray, List.set_cons_zero, List.set_cons_succ])
                    refine wpAnyH_take (i := 4) (oi := _) (v := ?_) rfl (by kernel_rfl) (by kernel_rfl) (by kernel_rfl) (fun _ _ _ h => h) (Or.inl ⟨by rfl, ?_⟩) (by assumption) ?_
                    rotate_left 1
                    · (intro wy hSw; (try dsimp only at hSw); go_simp; try with_reducible rfl)
                    (try simp only [Act.put, List.getElem_toArray, List.getElem_cons_succ, List.getElem_cons_zero, List.setIfInBounds_toArray, List.set_cons_zero, List.set_cons_succ])
                    refine wpAnyH_take (i := 5) (oi := _) (v := ?_) rfl (by kernel_rfl) (by kernel_rfl) (by kernel_rfl) (fun _ _ _ h => h) (Or.inl ⟨by rfl, ?_⟩) (by assumption) ?_
                    rotate_left 1
                    · (intro wy hSw; (try dsimp only at hSw); go_simp; try with_reducible rfl)
                    (try simp only [Act.put, List.getElem_toArray, List.getElem_cons_succ, List.getElem_cons_zero, List.setIfInBounds_toArray, List.set_cons_zero, List.set_cons_succ])
                    refine wpAnyH_take (i := 6) (oi := _) (v := ?_) rfl (by kernel_rfl) (by kernel_rfl) (by kernel_rfl) (fun _ _ _ h => h) (Or.inl ⟨by rfl, ?_⟩) (by assumption) ?_
                    rotate_left 1
                    · (intro wy hSw; (try dsimp only at hSw); go_simp; try with_reducible rfl)
                    (try simp only [Act.put, List.getElem_toArray, List.getElem_cons_succ, List.getElem_cons_zero, List.setIfInBounds_toArray, List.set_cons_zero, List.set_cons_succ])
                    refine wpAnyH_take (i := 7) (oi := _) (v := ?_) rfl (by kernel_rfl) (by kernel_rfl) (by kernel_rfl) (fun _ _ _ h => h) (Or.inl ⟨by rfl, ?_⟩) (by assumption) ?_
                    rotate_left 1
                    · (intro wy hSw; (try dsimp only at hSw); go_simp; try with_reducible rfl)
                    (try simp only [Act.put, List.getElem_toArray, List.getElem_cons_succ, List.getElem_cons_zero, List.setIfInBounds_toArray, List.set_cons_zero, List.set_cons_succ])
                    refine wpAnyH_take (i := 8) (oi := _) (v := ?_) rfl (by kernel_rfl) (by kernel_rfl) (by kernel_rfl) (fun _ _ _ h => h) (Or.inl ⟨by rfl, ?_⟩) (by assumption) ?_
                    rotate_left 1
                    · (intro wy hSw; (try dsimp only at hSw); go_simp; try with_reducible rfl)
                    (try simp only [Act.put, List.getElem_toArray, List.getElem_cons_succ, List.getElem_cons_zero, List.setIfInBounds_toArray, List.set_cons_zero, List.set_cons_succ])
                    refine wpAnyH_ready (rs := [9]) (by kernel_rfl) (by simp) ?_
                    refine AllReadyH.cons (o := _) rfl ?_ AllReadyH.nil
                    intro K9 hK9
                    go_simp
                    have h8 := blk_set (blk_set hbxz 0 (.int .i64 x1)) 1 (.int .i64 x2)
                    simp only [List.setIfInBounds_toArray, List.set_cons_zero, List.set_cons_succ] at h8
                    have hb8 := (hbkz.setCell (p := ⟨wO.heap.size, 0, none⟩) (Nat.le_refl _) (.int .i64 x1)).setCell (p := ⟨wO.heap.size, 1, none⟩) (Nat.le_refl _) (.int .i64 x2)
                    generalize (wz.setCell ⟨wO.heap.size, 0, none⟩ (.int .i64 x1)).setCell ⟨wO.heap.size, 1, none⟩ (.int .i64 x2) = w8 at h8 hb8 ⊢
                    have l8 := later (hbz.trans (hb8.mono hzO))
                    refine hK9.out _ _ (fun b _ => inferInstance) (fun hHeld9 => ?_)
                    clear hK9 K9 hHeld Xz hbxz hbkz lz lzz
                    (try simp only [Act.put, List.getElem_toArray, List.getElem_cons_succ, List.getElem_cons_zero, List.setIfInBounds_toArray, List.set_cons_zero, List.set_cons_succ])
                    refine wpAnyH_take (i := 10) (oi := _) (v := ?_) rfl (by kernel_rfl) (by kernel_rfl) (by kernel_rfl) (fun _ _ _ h => h) (Or.inl ⟨by rfl, ?_⟩) (by assumption) ?_
                    rotate_left 1
                    · (intro wy hSw; (try dsimp only at hSw); go_simp; try with_reducible rfl)
                    (try simp only [Act.put, List.getElem_toArray, List.getElem_cons_succ, List.getElem_cons_zero, List.setIfInBounds_toArray, List.set_cons_zero, List.set_cons_succ])
                    refine wpAnyH_done (by kernel_rfl) ?_ _
                    clear hHeld9
                    go_wp2_with fail
                    go_roundw
                    case rel => exact ⟨k + 1, x1, x2, (xl.length : Int), by omega, by go_num, rfl, h8, Htk, hb8⟩
                    case measure => simp [intOf]; omega
                  · have Hmo := hide (hbest.out.more Hq.out Hx.out Hrl.out hle)
                    have hlt' : decide ((xl.length : Int) < least) = false := by simpa using hle
                    go_upto_region 15 with fail
                    (refine wp_region_after (by kernel_rfl) (by kernel_rfl) ?_
                     repeat (any_goals (first | go_big_quiet_skip | (go_big_quiet_want; go_big_quiet_op; first | go_big_quiet_on | go_big_quiet_call ((go_at_call 24; exact Calls.after (HH _ inferInstance)))) | quiet_step ((go_at_call 24; exact Calls.after (HH _ inferInstance))) | (refine wpQuiet_step (fun K hK => ?_); go_simp; split <;> (refine hK _ ?_; clear hK K))))
                     all_goals (refine wpQuiet_nil ?_; intro _ hw'; obtain ⟨u', hw''⟩ := hw'; subst hw''; obtain ⟨wd, hbd⟩ := u'; simp only [After.val_mk]))
                    have ld := later hbd
                    go_wp2_with fail
                    go_roundw
                    case rel => exact ⟨k + 1, c1, c2, least, by omega, by go_num, rfl, blk_below hbx hbd, Hmo, hbk.trans (hbd.mono hbk.size)⟩
                    case measure => simp [intOf]; omega
            · have hkk : k = q.length := by omega
              subst hkk
              have Hid := hide (hbest.out.idom HT.out Hq.out Hy.out)
              have hzn := hide (show ∀ (j : Nat) (y : IDE), j < i + 1 → q[j]? = some y → ∃ t, (z ++ [(⟨c1, c2⟩ : IDE)])[j]? = some t ∧ IdomZ (conL l) roots y t from fun j y' hj hy' => by
                rcases Nat.lt_or_ge j i with h | h
                · obtain ⟨t, h1, h2⟩ := hz.out.2 j y' h hy'
                  exact ⟨t, by rw [List.getElem?_append_left (get_lt h1)]; exact h1, h2⟩
                · have : j = i := by omega
                  subst this
                  rw [Hy.out] at hy'
                  injection hy' with hy'
                  subst hy'
                  refine ⟨⟨c1, c2⟩, ?_, Hid.out⟩
                  rw [List.getElem?_append_right (by rw [hz.out.1]; exact Nat.le_refl _), hz.out.1, Nat.sub_self]; rfl)
              have Xb := boxed hbx
              have hzi := hz.out.1
              clear hz HRet
              subst hzi
              have hzk := hoz.below hbk
              have hwo : wL.heap.size ≤ wr.heap.size := Nat.le_trans hzO hbk.size
              go_upto_region 10 with (at_builtin; refine wpList_app1 rfl (.tmp 83) (.tmp 85) rfl IDE.enc idTQ ⟨c1, c2⟩ rfl rfl rfl (hzk.later _) (by rfl) (by omega) (by unfold maxLen; omega) (Nat.le_trans hwo (show Below wr.heap.size wr _ from below_of).size) ?_; intro A5 c5 w9 ho5 hm5 hb5 hg5 hat5)
              go_wp2_with fail
              go_roundw
              case rel => exact ⟨z.length + 1, z ++ [⟨c1, c2⟩], A5, c5, by omega, by go_num, rfl, hide ⟨by simp, hzn.out⟩, ho5, (hbz.trans (hbk.mono hzO)).trans hb5⟩
              case measure => simp [intOf]; omega
        · have hii : i = q.length := by omega
          subst hii
          have e3 := hide (show z.length = q.length from hz.out.1)
          have hbw : Below w.heap.size w wL := lw2.below.trans (hbr.mono lw2.below.size)
          go_wp2_with fail
          refine bodyPost_ret (v := .tuple #[.slice QA q.length QC, .slice ZA q.length ZC]) (by simp [results, Try.results13, go_sem]) rfl ?_
          refine ⟨q, z, QA, QC, ZA, ZC, rfl, hide ⟨Hq.out, ⟨hz.out.1, fun j y hj => hz.out.2 j y (get_lt hj) hj⟩, ids0, d0, HT.out⟩, ((hoq.below hbr).below hbz).mono ?_, hoz.mono hbw.size, hbw.trans (hbz.mono hbw.size)⟩
          exact (show Later w w1 from inferInstance).below.size
end Go.Proofs.Ytffnogjgnpbjlaa

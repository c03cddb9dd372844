/-
  Contracts of the functions of this seat that each theorem names: what a call returns, and that it writes nothing that was there before. The conditions stand in each theorem.
-/
import Derived.Test.YtomgdkfoinojiaaS32Lib
import Derived.Test.YtomgdkfoinojiaaStab6
import Derived.Deep.CutRange
import Derived.Deep.LoopGhost
set_option linter.unusedSimpArgs false
set_option linter.unusedVariables false
namespace Go.Proofs.Ytomgdkfoinojiaa
open Go.RowKit
attribute [local go_sem ↓] run_eql_id run_neq_id
attribute [local go_sem] Oper.semAt_some Instr.makeFunc
attribute [local simp] heap_drew
theorem insT : ElemT Try.prog 39 58 3 24 := ElemT.mk' (z := .agg #[.int .i64 0, .int .u64 0, .int .i64 0]) Try.underlying39 (by kernel_rfl) rfl
theorem farT : ElemT Try.prog 117 3 1 8 := ElemT.mk' (z := .int .i64 0) Try.underlying117 (by kernel_rfl) rfl
theorem sumT : ElemT Try.prog 32 41 5 56 := ElemT.mk' (z := .agg #[.int .i64 0, .int .u64 0, .bool false, .int .i64 0, .slice none 0 0]) Try.underlying32 (by kernel_rfl) rfl
theorem I64.enc : Enc I64.cells 1 := ⟨fun _ => rfl, fun x u hu => by simp only [I64.cells, List.mem_singleton] at hu; rw [hu]; rfl, by decide⟩
theorem insL_take {L : List NodeC} {ks : List ScionE} {x : IDE} {k : Nat} {s : ScionE} (h : ks[k]? = some s) : insL L (ks.take (k + 1)) x = insL L (ks.take k) x ++ (if insB L x s then [s] else []) := filter_take h
theorem insL_len {L : List NodeC} {ks : List ScionE} {x : IDE} {k : Nat} : (insL L (ks.take k) x).length ≤ k := Nat.le_trans (List.length_filter_le _ _) (by rw [List.length_take]; omega)
/-- What Summarize gives. -/
def SumPost (ep : Int) (S : List SumC) (w : World) (r : Ending) (w' : World) : Prop := ∃ q A c, Hid (q.map SumE.con = S) ∧ r = .returned (.agg #[.int .i64 ep, .slice A q.length c]) ∧ Own SumE.cells 5 41 w.heap.size w' (.slice A q.length c) q ∧ InsOwn w.heap.size w' q ∧ Below w.heap.size w w'
/-- What Summarize keeps from round to round. -/
def SumSt (L : List NodeC) (Gv : Value) (ep : Int) (gm g12 g14 gr B : Nat) (q0 : List IDE) (w wr : World) (cur : List SumE) (SA : Option Addr) (SC : Nat) : Prop :=
  (wr.heap[w.heap.size]? = some (.cells #[Gv] 24 (0, 0)) ∧ wr.heap[w.heap.size + 1]? = some (.cells #[.int .i64 0, .slice none 0 0] 34 (0, 0)) ∧ wr.heap[g12]? = some (.cells #[.map (some gm)] 114 (0, 0)) ∧
    wr.heap[g14]? = some (.cells #[.int .i64 ep, .slice SA cur.length SC] 34 (0, 0))) ∧ RInv L gm wr ∧ MapFn IDE.vv Value.bool wr gr (memM q0) ∧ Own SumE.cells 5 41 B wr (.slice SA cur.length SC) cur ∧ InsOwn B wr cur ∧ Below w.heap.size w wr ∧ B ≤ wr.heap.size
section
variable {L : List NodeC} {Gv : Value} {ep : Int} {gm g12 g14 gr B : Nat} {q0 : List IDE} {w wr wx : World} {cur : List SumE} {SA : Option Addr} {SC : Nat}
theorem SumSt.below (h : SumSt L Gv ep gm g12 g14 gr B q0 w wr cur SA SC) (hb : Below wr.heap.size wr wx) : SumSt L Gv ep gm g12 g14 gr B q0 w wx cur SA SC := by
  obtain ⟨⟨h1, h2, h3, h4⟩, h5, h6, h7, h8, h9, h10⟩ := h
  exact ⟨⟨blk_below h1 hb, blk_below h2 hb, blk_below h3 hb, blk_below h4 hb⟩, h5.below hb, h6.below hb, h7.below hb, h8.below hb, h9.trans (hb.mono h9.size), Nat.le_trans h10 hb.size⟩
theorem RInv.obj (h : RInv L gm wr) : ∃ es ck, wr.heap[gm]? = some (Obj.map es ck) := by
  obtain ⟨M, ⟨es, ck, h1, _⟩, _⟩ := h
  exact ⟨es, ck, h1⟩
theorem SumSt.reach (h : SumSt L Gv ep gm g12 g14 gr B q0 w wr cur SA SC) (hg : wr.grownBy wx (some gm)) (hI : RInv L gm wx) (hr : gr ≠ gm) (hw : w.heap.size ≤ gm) : SumSt L Gv ep gm g12 g14 gr B q0 w wx cur SA SC := by
  obtain ⟨⟨h1, h2, h3, h4⟩, h5, h6, h7, h8, h9, h10⟩ := h
  obtain ⟨es, ck, hm⟩ := h5.obj
  have hne : ∀ {k : Nat} {cs : Array Value} {t : TypeId} {fr : Nat × Nat}, wr.heap[k]? = some (.cells cs t fr) → k ≠ gm := fun hx e => by rw [e, hm] at hx; injection hx with hx; cases hx
  exact ⟨⟨grown_heap hg h1 (hne h1), grown_heap hg h2 (hne h2), grown_heap hg h3 (hne h3), grown_heap hg h4 (hne h4)⟩, hI, h6.of_heap (grown_block hg h6.lt hr), h7.kept_obj hg hm (fun cs e => by cases e), h8.map fun _ _ ho => ho.kept_obj hg hm (fun cs e => by cases e),
    below_grown h9 hg h9.size (fun k e => by injection e with e; omega), Nat.le_trans h10 (grown_size hg)⟩
end
/-- What the inner loop keeps. -/
def InSt (L : List NodeC) (gm gx : Nat) (e1 e2 : Int) (V : Bool) (wi wx : World) (fl : List Int) (FA : Option Addr) (FC : Nat) (il : List InsetE) (IA : Option Addr) (IC : Nat) : Prop :=
  wi.grownBy wx (some gm) ∧ RInv L gm wx ∧ wx.heap[gx]? = some (.cells #[.int .i64 e1, .int .u64 e2, .bool V, .int .i64 0, .slice IA il.length IC] 41 (0, 0)) ∧ Own I64.cells 1 3 wi.heap.size wx (.slice FA fl.length FC) fl ∧ Own InsetE.cells 3 58 wi.heap.size wx (.slice IA il.length IC) il
theorem InSt.below {L : List NodeC} {gm gx : Nat} {e1 e2 : Int} {V : Bool} {wi wx wy : World} {fl : List Int} {FA : Option Addr} {FC : Nat} {il : List InsetE} {IA : Option Addr} {IC : Nat} (h : InSt L gm gx e1 e2 V wi wx fl FA FC il IA IC) (hb : Below wx.heap.size wx wy) : InSt L gm gx e1 e2 V wi wy fl FA FC il IA IC :=
  ⟨h.1.trans (grown_below hb _), h.2.1.below hb, blk_below h.2.2.1 hb, h.2.2.2.1.below hb, h.2.2.2.2.below hb⟩
theorem InSt.reach {L : List NodeC} {gm gx : Nat} {e1 e2 : Int} {V : Bool} {wi wx wy : World} {fl : List Int} {FA : Option Addr} {FC : Nat} {il : List InsetE} {IA : Option Addr} {IC : Nat} (h : InSt L gm gx e1 e2 V wi wx fl FA FC il IA IC) (hg : wx.grownBy wy (some gm)) (hI : RInv L gm wy) : InSt L gm gx e1 e2 V wi wy fl FA FC il IA IC := by
  obtain ⟨h1, h2, h3, h4, h5⟩ := h
  obtain ⟨es, ck, hm⟩ := h2.obj
  exact ⟨h1.trans hg, hI, grown_heap hg h3 (fun e => by rw [e, hm] at h3; injection h3 with h3; cases h3), h4.kept_obj hg hm (fun cs e => by cases e), h5.kept_obj hg hm (fun cs e => by cases e)⟩
theorem grown_low {wi w9 w10 : World} {row : Option Nat} (h : wi.grownBy w9 row) (hb : Below wi.heap.size w9 w10) : wi.grownBy w10 row :=
  ⟨hb.os.trans h.os, hb.tape.trans h.tape, hb.output.trans h.output, Nat.le_trans h.size hb.size, fun k hk hne => (hb.block k hk).trans (h.block k hk hne)⟩
theorem low_set {wi w9 : World} {g i : Nat} {v : Value} (hg : wi.heap.size ≤ g) : Below wi.heap.size w9 (w9.setCell ⟨g, i, none⟩ v) := (Below.refl _ _).setCell hg v
section
variable {L : List NodeC} {gm gx : Nat} {e1 e2 : Int} {V : Bool} {wi wx w9 : World} {fl : List Int} {FA : Option Addr} {FC : Nat} {il : List InsetE} {IA : Option Addr} {IC : Nat} {A9 : Option Addr} {c9 : Nat}
theorem InSt.pushI (h : InSt L gm gx e1 e2 V wi wx fl FA FC il IA IC) {y : InsetE} (ho : Own InsetE.cells 3 58 wi.heap.size w9 (.slice A9 (il.length + 1) c9) (il ++ [y])) (hb : Below wi.heap.size wx w9) (hg : wx.grownBy w9 (Value.slice IA il.length IC).ownBlock) (hgx : wi.heap.size ≤ gx) :
    InSt L gm gx e1 e2 V wi (w9.setCell ⟨gx, 4, none⟩ (.slice A9 (il.length + 1) c9)) fl FA FC (il ++ [y]) A9 c9 := by
  obtain ⟨h1, h2, h3, h4, h5⟩ := h
  have h3' := heap_grownOwn h5 hg h3 (by decide)
  have h4' := own_grownOwn h5 hg h4 (by decide)
  refine ⟨grown_low (grown_low h1 hb) (low_set hgx), (h2.grownOwn h5 hg).grown (grown_setCell w9 ⟨gx, 4, none⟩ _) h3', ?_, h4'.far (p := ⟨gx, 4, none⟩) (own_off h4' h3' (by decide)) _, ?_⟩
  · rw [List.length_append]; exact blk_set h3' 4 _
  · rw [List.length_append]; exact ho.far (p := ⟨gx, 4, none⟩) (own_off ho h3' (by decide)) _
theorem InSt.pushF (h : InSt L gm gx e1 e2 V wi wx fl FA FC il IA IC) {y : Int} (ho : Own I64.cells 1 3 wi.heap.size w9 (.slice A9 (fl.length + 1) c9) (fl ++ [y])) (hb : Below wi.heap.size wx w9) (hg : wx.grownBy w9 (Value.slice FA fl.length FC).ownBlock) :
    InSt L gm gx e1 e2 V wi w9 (fl ++ [y]) A9 c9 il IA IC := by
  obtain ⟨h1, h2, h3, h4, h5⟩ := h
  exact ⟨grown_low h1 hb, h2.grownOwn h4 hg, heap_grownOwn h4 hg h3 (by decide), by rw [List.length_append]; exact ho, own_grownOwn h4 hg h5 (by decide)⟩
theorem InSt.sorted (h : InSt L gm gx e1 e2 V wi wx fl FA FC il IA IC) {q : List InsetE} (hq : q.length = il.length) (ho : Own InsetE.cells 3 58 wi.heap.size w9 (.slice IA il.length IC) q) (hb : Below wi.heap.size wx w9) (hg : wx.grownBy w9 (Value.slice IA il.length IC).ownBlock) :
    InSt L gm gx e1 e2 V wi w9 fl FA FC q IA IC := by
  obtain ⟨h1, h2, h3, h4, h5⟩ := h
  rw [← hq] at ho
  exact ⟨grown_low h1 hb, h2.grownOwn h5 hg, by rw [hq]; exact heap_grownOwn h5 hg h3 (by decide), own_grownOwn h5 hg h4 (by decide), ho⟩
end
theorem SumSt.push {L : List NodeC} {Gv : Value} {ep : Int} {gm g12 g14 gr B : Nat} {q0 : List IDE} {w wr w9 : World} {cur : List SumE} {SA : Option Addr} {SC : Nat} {A9 : Option Addr} {c9 : Nat} {x : SumE} (h : SumSt L Gv ep gm g12 g14 gr B q0 w wr cur SA SC)
    (ho : Own SumE.cells 5 41 B w9 (.slice A9 (cur.length + 1) c9) (cur ++ [x])) (hb : Below B wr w9) (hg : wr.grownBy w9 (Value.slice SA cur.length SC).ownBlock) (hx : Own InsetE.cells 3 58 B wr (.slice x.A x.inset.length x.c) x.inset)
    (hn : w.heap.size + 1 < g12 ∧ g12 < g14 ∧ gr < g12 ∧ w.heap.size ≤ B) : SumSt L Gv ep gm g12 g14 gr B q0 w (w9.setCell ⟨g14, 1, none⟩ (.slice A9 (cur.length + 1) c9)) (cur ++ [x]) A9 c9 := by
  obtain ⟨⟨h1, h2, h3, h4⟩, h5, h6, h7, h8, h9, h10⟩ := h
  have k1 := heap_grownOwn h7 hg h1 (by decide)
  have k2 := heap_grownOwn h7 hg h2 (by decide)
  have k3 := heap_grownOwn h7 hg h3 (by decide)
  have k4 := heap_grownOwn h7 hg h4 (by decide)
  have far : ∀ {k : Nat} {o : Obj} (v : Value), w9.heap[k]? = some o → k ≠ g14 → (w9.setCell ⟨g14, 1, none⟩ v).heap[k]? = some o := fun v hk hne => (blk_far (p := ⟨g14, 1, none⟩) hne v).trans hk
  refine ⟨⟨far _ k1 (by omega), far _ k2 (by omega), far _ k3 (by omega), ?_⟩, (h5.grownOwn h7 hg).grown (grown_setCell w9 ⟨g14, 1, none⟩ _) k4, (mapFn_grownOwn h6 h7 hg).of_heap (blk_far (p := ⟨g14, 1, none⟩) (show gr ≠ g14 by omega) _), ?_, ?_, ?_, ?_⟩
  · rw [List.length_append]; exact blk_set k4 1 _
  · rw [List.length_append]; exact ho.far (p := ⟨g14, 1, none⟩) (own_off ho k4 (by decide)) _
  · intro n hm
    rcases List.mem_append.1 hm with hm | hm
    · have := own_grownOwn h7 hg (h8 n hm) (by decide)
      exact this.far (p := ⟨g14, 1, none⟩) (own_off this k4 (by decide)) _
    · rw [List.mem_singleton] at hm
      subst hm
      have := own_grownOwn h7 hg hx (by decide)
      exact this.far (p := ⟨g14, 1, none⟩) (own_off this k4 (by decide)) _
  · exact (h9.trans (hb.mono hn.2.2.2)).setCell (p := ⟨g14, 1, none⟩) (by show w.heap.size ≤ g14; omega) _
  · exact Nat.le_trans h10 (Nat.le_trans (grown_size hg) (by simp [World.setCell]))
set_option maxRecDepth 100000 in
set_option maxHeartbeats 2000000 in
theorem summarize_any (A : Option Addr) (c : Nat) (l : List NodeE) (RA : Option Addr) (rc : Nat) (roots : List IDE) (KA : Option Addr) (kc : Nat) (ks : List ScionE) (EA : Option Addr) (ec : Nat) (es : List StubE) (ep : Int) (w : World) (H : NodesAt w A l) (hR : SlAt IDE.cells 2 w RA roots) (hK : SlAt ScionE.cells 12 w KA ks) (hE : SlAt StubE.cells 12 w EA es)
    (hl : l.length ≤ 10000) (hf : ∀ n ∈ l, n.fields.length ≤ 10000) (hrl : roots.length ≤ 10000) (hkl : ks.length ≤ 10000) (hel : es.length ≤ 10000) :
    Calls Try.prog 32 #[.agg #[.slice A l.length c], .slice RA roots.length rc, .slice KA ks.length kc, .slice EA es.length ec, .int .i64 ep] w (SumPost ep (sumL (conL l) roots ks es) w) := by
  have HL := H.later
  have HK : ∀ u [Later w u], SlAt ScionE.cells 12 u KA ks := fun u i => hK.below i.below
  have HE : ∀ u [Later w u], SlAt StubE.cells 12 u EA es := fun u i => hE.below i.below
  have HRe : ∀ u [Later w u], Calls Try.prog 20 #[.agg #[.slice A l.length c], .slice RA roots.length rc] u (ReachPost (conL l) roots u) := fun u i => reach_any A c l RA rc roots u (HL u) (hR.below i.below) hl hf hrl
  have HR1 : ∀ (gm g12 g5 : Nat) (id : IDE) (u : World), Later w u → u.heap[g5]? = some (.cells #[.slice A l.length c] 24 (0, 0)) → u.heap[g12]? = some (.cells #[.map (some gm)] 114 (0, 0)) → RInv (conL l) gm u → Calls Try.prog 64 #[id.v, .pointer (some ⟨g12, 0, none⟩), .pointer (some ⟨g5, 0, none⟩)] u (ReachPost1 (conL l) gm id u) :=
    fun gm g12 g5 id u i h5 h12 hI => by haveI := i; exact reach1_any A c l gm g12 g5 id u (HL u) hl hf h5 h12 hI
  have HR1 := hide HR1
  have hll : (conL l).length = l.length := by unfold conL; rw [List.length_map]
  have hcl : (conL l).length ≤ 10000 := by omega
  have hkl' : ks.length ≤ 9223372036854775807 := by omega
  have hel' : es.length ≤ 9223372036854775807 := by omega
  have hmm := @run_makeMap Try.prog
  clear hll
  go_enter Try.func32, Try.ntmps32
  go_upto_region 1 with fail
  refine wp_name ?_
  intro w0 hw0
  obtain ⟨B0, B1, l0⟩ := box2 hw0
  have h50 := (B0 w0).1
  have h100 := (B1 w0).1
  clear hw0
  go_upto_region 5 with (first
    | (go_at_call 20; refine (HRe _).mono ?_; rintro r w1 ⟨q0, QA, Qc, hq0, rfl, hoq, hb1⟩; have l1 := later hb1; have hql := reachL_len hq0; have HQ : ∀ u [Later w1 u], SlAt IDE.cells 2 u QA q0 := fun u i => ((hoq.below i.below).at_ IDE.enc).2.2; have l11 : Later w1 w1 := Later.refl)
    | (go_at_call 63; refine (set_any QA Qc q0 _ (HQ _) (by omega)).mono ?_; rintro r w3 ⟨gr, rfl, hgr, hMr, hb3⟩; have l3 := later hb3))
  clear hmm
  refine wp_name ?_
  intro w4 hw4
  have hgr3 : gr < w3.heap.size := hMr.lt
  have m4 : w4.heap[w3.heap.size]? = some (.map #[] 0) := (by rw [← hw4]; simp only [heap_alloc_if, World.size_alloc]; repeat (first | rw [if_pos trivial] | rw [if_neg (by omega)] | rw [if_pos (by omega)]); try rfl)
  have h12 : w4.heap[w3.heap.size + 1]? = some (.cells #[.map (some w3.heap.size)] 114 (0, 0)) := (by rw [← hw4]; simp only [heap_alloc_if, World.size_alloc]; repeat (first | rw [if_pos trivial] | rw [if_neg (by omega)] | rw [if_pos (by omega)]); try rfl)
  have h14 : w4.heap[w3.heap.size + 1 + 1]? = some (.cells #[.int .i64 ep, .slice none 0 0] 34 (0, 0)) := (by rw [← hw4]; simp only [heap_alloc_if, World.size_alloc]; repeat (first | rw [if_pos trivial] | rw [if_neg (by omega)] | rw [if_pos (by omega)]); try rfl)
  have hb34 : Below w3.heap.size w3 w4 := by rw [← hw4]; exact (by repeat (first | with_reducible exact Below.refl _ _ | (with_reducible refine Below.drew ?_) | (with_reducible refine below_drewN ?_ _) | (with_reducible refine Below.alloc ?_ ?_ _; rotate_left; (first | omega | (simp <;> omega))) | (with_reducible refine Below.setCell ?_ ?_ _; rotate_left; (first | omega | (simp <;> omega)))))
  have hz4 : w4.heap.size = w3.heap.size + 1 + 1 + 1 := by rw [← hw4]; simp
  have l34 := later hb34
  have h5 : w4.heap[w.heap.size]? = some (.cells #[.slice A l.length c] 24 (0, 0)) := (B0 w4).1
  have h10 : w4.heap[w.heap.size + 1]? = some (.cells #[.int .i64 0, .slice none 0 0] 34 (0, 0)) := (B1 w4).1
  have hz03 : w.heap.size + 1 < w3.heap.size := Nat.lt_of_lt_of_le (blk_lt h100) (show Later w0 w3 from inferInstance).below.size
  have hMr4 := hMr.below hb34
  have hb4 : Below w.heap.size w w4 := below_of
  have hRI : RInv (conL l) w3.heap.size w4 := ⟨fun _ => none, ⟨#[], 0, m4, by simp, by simp, by simp⟩, fun id g h => by cases h⟩
  have hgr0 : w.heap.size ≤ gr := Nat.le_trans (show Later w _ from inferInstance : Later w w1).below.size (by simpa [heap_drew] using hgr)
  clear hw4 m4 hb34 l34 HRe HQ hoq hMr h50 h100 B0 B1 hb3 l3 l1 l11 hb1 l0
  obtain ⟨gm, hgm⟩ : ∃ gm, gm = w3.heap.size := ⟨_, rfl⟩
  obtain ⟨g12, hg12⟩ : ∃ g12, g12 = w3.heap.size + 1 := ⟨_, rfl⟩
  obtain ⟨g14, hg14⟩ : ∃ g14, g14 = w3.heap.size + 1 + 1 := ⟨_, rfl⟩
  rw [← hg14] at h14
  rw [← hg12, ← hgm] at h12
  rw [← hgm] at hRI
  rw [← hg14, ← hg12]
  have HB := hide (show w.heap.size + 1 < gm ∧ gr < gm ∧ w.heap.size ≤ gr ∧ g12 = gm + 1 ∧ g14 = gm + 1 + 1 ∧ w4.heap.size = gm + 1 + 1 + 1 by omega)
  clear hz4 hz03 hgr3 hgr0 hg14 hg12 hgm hgr
  have ST := hide (show SumSt (conL l) (.slice A l.length c) ep gm g12 g14 gr w4.heap.size q0 w w4 [] none 0 from ⟨⟨h5, h10, h12, h14⟩, hRI, hMr4, Own.nil, (fun n hn => by cases hn), hb4, Nat.le_refl _⟩)
  clear h5 h10 h12 h14 hRI hMr4 hb4 H hR hK hE
  go_wp2_with fail
  go_loopg [31] es.length (fun kx s31 wr => ∃ (k : Nat) (cur : List SumE) (SA : Option Addr) (SC : Nat), s31 = .int .i64 k ∧ k ≤ es.length ∧ es.length - k ≤ kx ∧ Hid (cur.map SumE.con = ((es.take k).filter aliveB).map (sumOf (conL l) roots ks)) ∧ Hid (SumSt (conL l) (.slice A l.length c) ep gm g12 g14 gr w4.heap.size q0 w wr cur SA SC))
  case atStart => exact ⟨0, [], none, 0, rfl, Nat.zero_le _, Nat.le_refl _, hide rfl, ST⟩
  case round =>
    clear ST
    obtain ⟨k, cur, SA, SC, rfl, hk, hkx, HC, ST⟩ := hrel
    have lwr : Later w wr := ⟨ST.out.2.2.2.2.2.1⟩
    have hcl2 : cur.length ≤ es.length := by
      have := congrArg List.length HC.out
      rw [List.length_map, List.length_map] at this
      rw [this]
      exact Nat.le_trans (List.length_filter_le _ _) (by rw [List.length_take]; omega)
    by_cases hlt : k < es.length
    · have hki : (k : Int) < (es.length : Int) := by omega
      obtain ⟨b1, o1, e, rfl, he, C1⟩ := StubE.get (HE wr) hlt
      have HT := hide (filter_take (p := aliveB) he)
      obtain ⟨e1, e2, e3, e4, e5, e6, e7, e8, e9, e10, e11, e12⟩ := e
      clear he
      go_upto_region 8 with fail
      refine wp_name ?_
      intro wi hwi
      obtain ⟨Be, lwi⟩ := box1 hwi
      clear hwi
      have lii : Later wi wi := Later.refl
      have lwi2 : Later w wi := inferInstance
      have hbi : Below wr.heap.size wr wi := (lwi wr).below
      have STi := hide (ST.out.below hbi)
      clear ST
      obtain ⟨ge, hge⟩ : ∃ ge, ge = wr.heap.size := ⟨_, rfl⟩
      rw [← hge] at Be ⊢
      have HGE := hide (show True ∧ ge < wi.heap.size from ⟨trivial, boxed_lt Be⟩)
      clear hge
      cases e9
      · cases e10
        · -- alive
          have hlk : ∀ (u : World) [Later wi u], (Instr.lookup 90 (.map (some gr)) (.agg #[.int .i64 e3, .int .i64 e4]) false).run Try.prog u = .ok (.bool (decide ((⟨e3, e4⟩ : IDE) ∈ q0))) u := fun u i => by
            have := run_look keyI Try.underlying90 zeroBool (STi.out.2.2.1.later u) ⟨e3, e4⟩
            rw [memM_look] at this
            exact this
          have HV := hide (hasB_eq hq0 ⟨e3, e4⟩)
          go_upto_region 9 with fail
          go_cut [17] from 32 to 110 (fun s17 wx => s17 = .pointer (some ⟨wi.heap.size, 0, none⟩) ∧ Hid (wx.heap[wi.heap.size]? = some (.cells #[.int .i64 e1, .int .u64 e2, .bool (hasB (conL l) roots ⟨e3, e4⟩), .int .i64 0, .slice none 0 0] 41 (0, 0)) ∧ Below wi.heap.size wi wx ∧ wi.heap.size < wx.heap.size))
          case first =>
            go_region_held3 (fun w' => ∀ b [Later b wi], Later b w') ((intro b _; infer_instance)) (fail)
            all_goals go_wp2_with fail
            all_goals go_meet
            all_goals exact ⟨rfl, hide (by rw [← HV.out]; exact ⟨heap_alloc_new wi _, below_of, by simp [heap_drew]⟩)⟩
          case rest =>
            obtain ⟨rfl, HX0⟩ := hcut
            have hbx : Below wi.heap.size wi wc := HX0.out.2.1
            have hwgm : w.heap.size ≤ gm := by have := HB.out; omega
            have hgeb : ge < wi.heap.size := HGE.out.2
            have hge2 := hide ((Be wi).1)
            obtain ⟨V, hVd⟩ : ∃ V, V = hasB (conL l) roots ⟨e3, e4⟩ := ⟨_, rfl⟩
            rw [← hVd] at HX0
            have HVd := hide hVd
            have hRIi : RInv (conL l) gm wi := STi.out.2.1
            have IN := hide (show InSt (conL l) gm wi.heap.size e1 e2 V wi wc [] none 0 [] none 0 from ⟨grown_below hbx _, hRIi.below hbx, HX0.out.1, Own.nil, Own.nil⟩)
            have hRIobj := hide hRIi.obj
            clear hVd HX0 hRIi hbx HV hlk
            go_wp2_with fail
            go_loopg [18, 52] ks.length (fun kx2 s18 s52 wx => ∃ (j : Nat) (fl : List Int) (FA : Option Addr) (FC : Nat) (il : List InsetE) (IA : Option Addr) (IC : Nat), s18 = .slice FA fl.length FC ∧ s52 = .int .i64 j ∧ j ≤ ks.length ∧ ks.length - j ≤ kx2 ∧
              Hid (fl = (insL (conL l) (ks.take j) ⟨e3, e4⟩).map ScionE.distance ∧ il = (insL (conL l) (ks.take j) ⟨e3, e4⟩).map toIn ∧ fl.length ≤ ks.length ∧ il.length ≤ ks.length) ∧ Hid (InSt (conL l) gm wi.heap.size e1 e2 V wi wx fl FA FC il IA IC))
            case atStart => exact ⟨0, [], none, 0, [], none, 0, rfl, rfl, Nat.zero_le _, Nat.le_refl _, hide ⟨rfl, rfl, Nat.zero_le _, Nat.zero_le _⟩, IN⟩
            case round =>
              clear IN
              obtain ⟨j, fl, FA, FC, il, IA, IC, rfl, rfl, hj, hkx2, HF, IN⟩ := hrel
              have lwx : Later w wr := ⟨below_grown (row := some gm) (lwi2.below) IN.out.1 (lwi2.below).size (fun k e => by injection e with e; omega)⟩
              by_cases hltj : j < ks.length
              · have hkj : (j : Int) < (ks.length : Int) := by omega
                obtain ⟨b2, o2, kk, rfl, hkk, C2⟩ := ScionE.get (HK wr) hltj
                have HTk := hide (insL_take (L := conL l) (x := ⟨e3, e4⟩) hkk)
                obtain ⟨k1, k2, k3, k4, k5, k6, k7, k8, k9, k10, k11, k12⟩ := kk
                clear hkk
                go_upto_region 14 with fail
                refine wp_name ?_
                intro wk hwk
                obtain ⟨Bk, lwk⟩ := box1 hwk
                have hbk : Below wr.heap.size wr wk := (lwk wr).below
                clear hwk
                have lkk : Later wk wk := Later.refl
                have lwk2 : Later w wk := inferInstance
                have INk := hide (IN.out.below hbk)
                have hgek := hide (grown_heap INk.out.1 hge2.out (fun e => by
                  obtain ⟨es', ck', hm⟩ := hRIobj.out
                  have := hge2.out
                  rw [e, hm] at this; injection this with this; cases this))
                have Bge := boxed hgek.out
                have hST5 := grown_heap INk.out.1 STi.out.1.1
                have HRk : ∀ u [Later wk u], Calls Try.prog 64 #[.agg #[.int .i64 k3, .int .i64 k4], .pointer (some ⟨g12, 0, none⟩), .pointer (some ⟨w.heap.size, 0, none⟩)] u (ReachPost1 (conL l) gm ⟨k3, k4⟩ u) := fun u i => by
                  have hSk := STi.out.reach INk.out.1 INk.out.2.1 (by have := HB.out; omega) hwgm
                  have hSu := hSk.below i.below
                  exact HR1.out gm g12 w.heap.size ⟨k3, k4⟩ u (lwk2.trans i) hSu.1.1 hSu.1.2.2.1 hSu.2.1
                obtain ⟨es', ck', hmk⟩ := INk.out.2.1.obj
                have hmk' := hide hmk
                have HcR : ∀ u v, Later wk u → u.grownBy v (some gm) → ∀ (a : Addr) (x : Value), u.cell? a = some x → v.cell? a = some x := fun u v i hg => cells_grown (blk_below hmk'.out i.below) hg
                clear IN hmk hST5
                go_cut [77] from 53 to 95 (fun s77 wy => s77 = .bool (!insB (conL l) ⟨e3, e4⟩ ⟨k1, k2, k3, k4, k5, k6, k7, k8, k9, k10, k11, k12⟩) ∧ Hid (wk.grownBy wy (some gm) ∧ RInv (conL l) gm wy))
                case first =>
                  have hzz : ideq k3 k4 0 0 = decide ((⟨k3, k4⟩ : IDE) = ⟨0, 0⟩) := ideq_iff (a := ⟨k3, k4⟩) (b := ⟨0, 0⟩)
                  have HZ := hide hzz
                  clear hzz
                  cases k9
                  · cases k10
                    · cases hz : ideq k3 k4 0 0
                      · have q2 := ((Bk wk).2 2).1
                        have q3 := ((Bk wk).2 3).1
                        have q8 := ((Bk wk).2 8).1
                        have q9 := ((Bk wk).2 9).1
                        have p2 := ((Bge wk).2 2).1
                        have p3 := ((Bge wk).2 3).1
                        simp at q2 q3 q8 q9 p2 p3
                        have hins := hide (show insB (conL l) ⟨e3, e4⟩ ⟨k1, k2, k3, k4, k5, k6, k7, k8, false, false, k11, k12⟩ = hasB (conL l) [⟨k3, k4⟩] ⟨e3, e4⟩ by rw [HZ.out, decide_eq_false_iff_not] at hz; simp [insB, rootB, idK, hz])
                        go_region_held3 (fun w' => w'.cell? ⟨wr.heap.size, 2, none⟩ = some (.int .i64 k3) ∧ w'.cell? ⟨wr.heap.size, 3, none⟩ = some (.int .i64 k4) ∧ w'.cell? ⟨wr.heap.size, 8, none⟩ = some (.bool false) ∧ w'.cell? ⟨wr.heap.size, 9, none⟩ = some (.bool false) ∧ w'.cell? ⟨ge, 2, none⟩ = some (.int .i64 e3) ∧ w'.cell? ⟨ge, 3, none⟩ = some (.int .i64 e4)) (first | go_keep)
                          ((go_at_call 64; refine (HRk _).mono ?_; rintro r w7 ⟨g7, q7, rfl, hq7, hM7, hI7, hg7⟩; have c7 := HcR _ _ inferInstance hg7; have r2 := c7 _ _ (Later.cell q2 _); have r3 := c7 _ _ (Later.cell q3 _); have r8 := c7 _ _ (Later.cell q8 _); have r9 := c7 _ _ (Later.cell q9 _); have t2 := c7 _ _ (Later.cell p2 _); have t3 := c7 _ _ (Later.cell p3 _); have hlk7 : ∀ (u : World) [Later w7 u], (Instr.lookup 90 (.map (some g7)) (.agg #[.int .i64 e3, .int .i64 e4]) false).run Try.prog u = .ok (.bool (decide ((⟨e3, e4⟩ : IDE) ∈ q7))) u := fun u i => (by have := run_look keyI Try.underlying90 zeroBool (hM7.later u) ⟨e3, e4⟩; rw [memM_look] at this; exact this); have l77 : Later w7 w7 := Later.refl; have hqv := hide (hasB_eq hq7 ⟨e3, e4⟩)))
                        go_wp2_with fail
                        go_meet
                        exact ⟨by rw [hins.out, ← hqv.out], hide ⟨World.grownBy.trans (grown_below (below_of (b := wk)) _) (hg7.trans (grown_below (below_of (b := w7)) _)), hI7.below below_of⟩⟩
                      · (refine wp_region_after (by kernel_rfl) (by kernel_rfl) ?_
                         repeat (any_goals (first | go_big_quiet_skip | (go_big_quiet_want; go_big_quiet_op; first | go_big_quiet_on | go_big_quiet_call (fail)) | quiet_step (fail) | (refine wpQuiet_step (fun K hK => ?_); go_simp; split <;> (refine hK _ ?_; clear hK K))))
                         all_goals (refine wpQuiet_nil ?_; intro _ hw'; obtain ⟨u', hw''⟩ := hw'; subst hw''; obtain ⟨wd, hbd⟩ := u'; simp only [After.val_mk]))
                        go_wp2_with fail
                        go_meet
                        exact ⟨by rw [show insB (conL l) ⟨e3, e4⟩ ⟨k1, k2, k3, k4, k5, k6, k7, k8, false, false, k11, k12⟩ = false by rw [HZ.out, decide_eq_true_eq] at hz; simp [insB, rootB, idK, hz]]; rfl, hide ⟨grown_below hbd _, INk.out.2.1.below hbd⟩⟩
                    · (refine wp_region_after (by kernel_rfl) (by kernel_rfl) ?_
                       repeat (any_goals (first | go_big_quiet_skip | (go_big_quiet_want; go_big_quiet_op; first | go_big_quiet_on | go_big_quiet_call (fail)) | quiet_step (fail) | (refine wpQuiet_step (fun K hK => ?_); go_simp; split <;> (refine hK _ ?_; clear hK K))))
                       all_goals (refine wpQuiet_nil ?_; intro _ hw'; obtain ⟨u', hw''⟩ := hw'; subst hw''; obtain ⟨wd, hbd⟩ := u'; simp only [After.val_mk]))
                      go_wp2_with fail
                      go_meet
                      exact ⟨rfl, hide ⟨grown_below hbd _, INk.out.2.1.below hbd⟩⟩
                  · (refine wp_region_after (by kernel_rfl) (by kernel_rfl) ?_
                     repeat (any_goals (first | go_big_quiet_skip | (go_big_quiet_want; go_big_quiet_op; first | go_big_quiet_on | go_big_quiet_call (fail)) | quiet_step (fail) | (refine wpQuiet_step (fun K hK => ?_); go_simp; split <;> (refine hK _ ?_; clear hK K))))
                     all_goals (refine wpQuiet_nil ?_; intro _ hw'; obtain ⟨u', hw''⟩ := hw'; subst hw''; obtain ⟨wd, hbd⟩ := u'; simp only [After.val_mk]))
                    go_wp2_with fail
                    go_meet
                    exact ⟨rfl, hide ⟨grown_below hbd _, INk.out.2.1.below hbd⟩⟩
                case rest =>
                  obtain ⟨rfl, HW⟩ := hcut
                  have IN2 := hide (INk.out.reach HW.out.1 HW.out.2)
                  have hgk2 := hide (grown_heap HW.out.1 (Bk wk).1 (fun e => by
                    have := (Bk wk).1
                    rw [e, hmk'.out] at this; injection this with this; cases this))
                  clear INk HW hmk' HcR HRk hgek Bge Bk lwk lwk2 lkk hbk
                  cases hi : insB (conL l) ⟨e3, e4⟩ ⟨k1, k2, k3, k4, k5, k6, k7, k8, k9, k10, k11, k12⟩
                  · have HF2 := hide (show fl = (insL (conL l) (ks.take (j + 1)) ⟨e3, e4⟩).map ScionE.distance ∧ il = (insL (conL l) (ks.take (j + 1)) ⟨e3, e4⟩).map toIn ∧ fl.length ≤ ks.length ∧ il.length ≤ ks.length by rw [HTk.out, hi]; simpa using HF.out)
                    clear hi
                    go_wp2_with fail
                    go_roundg (ks.length - (j + 1))
                    case measure => omega
                    case rel => exact ⟨j + 1, fl, FA, FC, il, IA, IC, rfl, by go_num, by omega, Nat.le_refl _, HF2, IN2⟩
                  · have HF2 := hide (show fl ++ [k7] = (insL (conL l) (ks.take (j + 1)) ⟨e3, e4⟩).map ScionE.distance ∧ il ++ [⟨k1, k2, k5⟩] = (insL (conL l) (ks.take (j + 1)) ⟨e3, e4⟩).map toIn ∧ (fl ++ [k7]).length ≤ ks.length ∧ (il ++ [(⟨k1, k2, k5⟩ : InsetE)]).length ≤ ks.length by
                      have hlen : (insL (conL l) (ks.take (j + 1)) ⟨e3, e4⟩).length ≤ ks.length := Nat.le_trans insL_len (by omega)
                      rw [HTk.out, hi] at hlen ⊢
                      obtain ⟨f1, f2, f3, f4⟩ := HF.out
                      simp only [if_true, List.map_append, List.map_cons, List.map_nil, List.length_append, List.length_cons, List.length_nil] at hlen ⊢
                      rw [f1, f2]
                      exact ⟨rfl, rfl, by rw [List.length_map]; omega, by rw [List.length_map]; omega⟩)
                    clear hi
                    have hwi2 : wi.heap.size ≤ wc.heap.size := grown_size IN2.out.1
                    have Bx := boxed IN2.out.2.2.1
                    have Bk2 := boxed hgk2.out
                    have lcc : Later wc wc := Later.refl
                    have hIo := IN2.out.2.2.2.2
                    have hlen2 : fl.length + 1 ≤ 10000 ∧ il.length + 1 ≤ 10000 := by
                      obtain ⟨_, _, f3, f4⟩ := HF2.out
                      rw [List.length_append, List.length_singleton] at f3 f4
                      omega
                    obtain ⟨hfl2, hil2⟩ := hlen2
                    go_upto_region 16 with (at_builtin; refine wpList_app1 rfl (.tmp 79) (.tmp 87) rfl InsetE.enc insT (⟨k1, k2, k5⟩ : InsetE) rfl rfl rfl hIo (by rfl) (by omega) (by unfold maxLen; omega) hwi2 ?_; intro A9 c9 w9 ho9 hm9 hb9 hg9 hat9; have hgx9 := heap_grownOwn hIo hg9 IN2.out.2.2.1 (by decide); have hgk9 := heap_grownOwn hIo hg9 hgk2.out (by decide); have BX9 := boxed hgx9; have l99 : Later w9 w9 := Later.refl)
                    refine wp_name ?_
                    intro wm hwm
                    have INm := hide (show InSt (conL l) gm wi.heap.size e1 e2 V wi wm fl FA FC (il ++ [(⟨k1, k2, k5⟩ : InsetE)]) A9 c9 by rw [← hwm]; exact IN2.out.pushI ho9 hb9 hg9 (Nat.le_refl _))
                    have hkx : wr.heap.size ≠ wi.heap.size := fun e => by
                      rw [e, hgx9] at hgk9
                      injection hgk9 with hgk9
                      injection hgk9 with _ hgk9 _
                      exact absurd hgk9 (by decide)
                    have hgkm : wm.heap[wr.heap.size]? = some (.cells #[.int .i64 k1, .int .u64 k2, .int .i64 k3, .int .i64 k4, .int .i64 k5, .int .i64 k6, .int .i64 k7, .bool k8, .bool k9, .bool k10, .int .i64 k11, .int .i64 k12] 48 (0, 0)) := by rw [← hwm]; exact (blk_far (p := ⟨wi.heap.size, 4, none⟩) hkx _).trans hgk9
                    clear hwm hgx9 hgk9 BX9 Bx Bk2 ho9 hb9 hg9 hat9 hIo l99 IN2 hgk2
                    have Bk3 := boxed hgkm
                    have lmm : Later wm wm := Later.refl
                    have hFo := INm.out.2.2.2.1
                    have hwi3 : wi.heap.size ≤ wm.heap.size := grown_size INm.out.1
                    go_wp2_with (at_builtin; refine wpList_app1 rfl (.tmp 90) (.tmp 93) rfl I64.enc farT k7 rfl rfl rfl hFo (by rfl) (by omega) (by unfold maxLen; omega) hwi3 ?_; intro A10 c10 w10 ho10 hm10 hb10 hg10 hat10)
                    go_roundg (ks.length - (j + 1))
                    case measure => omega
                    case rel => exact ⟨j + 1, fl ++ [k7], A10, c10, il ++ [⟨k1, k2, k5⟩], A9, c9, by simp, by go_num, by omega, Nat.le_refl _, HF2, hide (INm.out.pushF ho10 hb10 hg10)⟩
              · have hjj : j = ks.length := by omega
                have HF2 := hide (show fl = (insL (conL l) ks ⟨e3, e4⟩).map ScionE.distance ∧ il = (insL (conL l) ks ⟨e3, e4⟩).map toIn ∧ fl.length ≤ ks.length ∧ il.length ≤ ks.length by
                  have := HF.out
                  rwa [hjj, List.take_length] at this)
                have hkj : ¬ (j : Int) < (ks.length : Int) := by omega
                clear HF hjj
                have hIo := IN.out.2.2.2.2
                have hwi2 : wi.heap.size ≤ wr.heap.size := grown_size IN.out.1
                have HSo := (sortIns_any IA IC il wi.heap.size wr hIo (by have := HF2.out.2.2.2; omega) hwi2).mono (fun e w' (h : e = .returned (.tuple #[]) ∧ _) => (⟨h.1, hide h.2⟩ : e = .returned (.tuple #[]) ∧ Hid _))
                have Bx := boxed IN.out.2.2.1
                have lrr : Later wr wr := Later.refl
                go_upto_region 19 with (go_at_call 65; refine HSo.mono ?_; rintro r w11 ⟨rfl, hp⟩)
                obtain ⟨q, hs1, hs2, hoq, hbq, hgq⟩ := hp.out
                have INs := hide (IN.out.sorted (hs2.length cmpIn_swo) hoq hbq hgq)
                have hqe := hide (show q = sortL ltIn ((insL (conL l) ks ⟨e3, e4⟩).map toIn) by rw [← HF2.out.2.1]; exact sortL_eq cmpIn_swo hs1 hs2)
                have hqw := hide (show q.length = il.length from hs2.length cmpIn_swo)
                clear hp hs1 hs2 hoq hbq hgq HSo IN hIo Bx lrr hwi2
                have Bxs := boxed INs.out.2.2.1
                have l1111 : Later w11 w11 := Later.refl
                have HD : ∀ u [Later w11 u], Calls Try.prog 66 #[.bool V, .slice FA fl.length FC] u fun e w' => e = .returned (.int .i64 (farD V fl)) ∧ Below u.heap.size u w' := fun u i => dstub_any V FA FC fl u (((INs.out.2.2.2.1.below i.below).at_ I64.enc).2.2) (by have := HF2.out.2.2.1; omega)
                obtain ⟨D, hD⟩ : ∃ D, D = farD V fl := ⟨_, rfl⟩
                rw [← hD] at HD
                have HDd := hide hD
                clear hD
                go_upto_region 20 with (go_at_call 66; refine (HD _).mono ?_; rintro r w12 ⟨rfl, hb12⟩; have l12 := later hb12)
                refine wp_name ?_
                intro w13 hw13
                have IN12 := INs.out.below (show Below w11.heap.size w11 w12 from below_of)
                have hx13 : w13.heap[wi.heap.size]? = some (.cells #[.int .i64 e1, .int .u64 e2, .bool V, .int .i64 D, .slice IA q.length IC] 41 (0, 0)) := by rw [← hw13]; exact blk_set IN12.2.2.1 3 _
                have hg13 : wi.grownBy w13 (some gm) := by rw [← hw13]; exact grown_low IN12.1 (low_set (Nat.le_refl _))
                have hR13 : RInv (conL l) gm w13 := by rw [← hw13]; exact IN12.2.1.grown (grown_setCell w12 ⟨wi.heap.size, 3, none⟩ _) IN12.2.2.1
                have hI13 : Own InsetE.cells 3 58 wi.heap.size w13 (.slice IA q.length IC) q := by rw [← hw13]; exact IN12.2.2.2.2.far (p := ⟨wi.heap.size, 3, none⟩) (own_off IN12.2.2.2.2 IN12.2.2.1 (by decide)) _
                have STz := hide (STi.out.reach hg13 hR13 (by have := HB.out; omega) hwgm)
                have hB13 : w4.heap.size ≤ wi.heap.size := STi.out.2.2.2.2.2.2
                have hIz := hide (hI13.mono hB13)
                clear hw13 IN12 INs Bxs HD hg13 hR13 hI13 l12 hb12 l1111
                have Bx13 := boxed hx13
                have B14 := boxed STz.out.1.2.2.2
                have hCo := STz.out.2.2.2.1
                have hz13 : w4.heap.size ≤ w13.heap.size := STz.out.2.2.2.2.2.2
                have l1313 : Later w13 w13 := Later.refl
                go_wp2_with (at_builtin; refine wpList_app1 rfl (.tmp 105) (.tmp 107) rfl SumE.enc sumT (⟨e1, e2, V, D, IA, IC, q⟩ : SumE) rfl rfl rfl hCo (by rfl) (by omega) (by unfold maxLen; omega) hz13 ?_; intro A14 c14 w14 ho14 hm14 hb14 hg14 hat14; have hq14 := heap_grownOwn hCo hg14 STz.out.1.2.2.2 (by decide); have B14' := boxed hq14; have l1414 : Later w14 w14 := Later.refl)
                go_roundg (es.length - (k + 1))
                case measure => omega
                case rel => exact ⟨k + 1, cur ++ [⟨e1, e2, V, D, IA, IC, q⟩], A14, c14, by go_num, by omega, Nat.le_refl _, hide (by
                    rw [HT.out, List.map_append, List.map_append, HC.out]
                    have hs : SumE.con ⟨e1, e2, V, D, IA, IC, q⟩ = sumOf (conL l) roots ks ⟨e1, e2, e3, e4, e5, e6, e7, e8, false, false, e11, e12⟩ := by
                      unfold SumE.con sumOf
                      rw [HDd.out, hqe.out, HF2.out.1, HVd.out]
                      rfl
                    simp [aliveB, hs]), hide (STz.out.push ho14 hb14 hg14 hIz.out (by have := HB.out; omega))⟩
        · go_wp2_with fail
          go_roundg (es.length - (k + 1))
          case measure => omega
          case rel => exact ⟨k + 1, cur, SA, SC, by go_num, by omega, Nat.le_refl _, hide (by rw [HT.out, HC.out]; simp [aliveB]), STi⟩
      · go_wp2_with fail
        go_roundg (es.length - (k + 1))
        case measure => omega
        case rel => exact ⟨k + 1, cur, SA, SC, by go_num, by omega, Nat.le_refl _, hide (by rw [HT.out, HC.out]; simp [aliveB]), STi⟩
    · have hkk : k = es.length := by omega
      subst hkk
      have hS : cur.map SumE.con = (es.filter aliveB).map (sumOf (conL l) roots ks) := by rw [HC.out, List.take_length]
      have HS := hide hS
      clear hS HC
      have hCo := ST.out.2.2.2.1
      have hzB : w4.heap.size ≤ wr.heap.size := ST.out.2.2.2.2.2.2
      have HSo := (sortSum_any SA SC cur w4.heap.size wr hCo (by omega) hzB).mono (fun e w' (h : e = .returned (.tuple #[]) ∧ _) => (⟨h.1, hide h.2⟩ : e = .returned (.tuple #[]) ∧ Hid _))
      have B14 := boxed ST.out.1.2.2.2
      have lrr : Later wr wr := Later.refl
      go_upto_region 23 with (go_at_call 67; refine HSo.mono ?_; rintro r w11 ⟨rfl, hp⟩)
      obtain ⟨q, hs1, hs2, hoq, hbq, hgq⟩ := hp.out
      have hql : q.length = cur.length := hs2.length cmpSu_swo
      have h10 := heap_grownOwn hCo hgq ST.out.1.2.1 (by decide)
      have h14 := heap_grownOwn hCo hgq ST.out.1.2.2.2 (by decide)
      have hIO : InsOwn w4.heap.size w11 q := fun n hn => own_grownOwn hCo hgq (ST.out.2.2.2.2.1 n ((hs2.mem cmpSu_swo).1 hn)) (by decide)
      have hbw := ST.out.2.2.2.2.2.1
      have hb11 : Below w.heap.size w w11 := hbw.trans (hbq.mono (by have := HB.out; omega))
      have hcon : q.map SumE.con = sumL (conL l) roots ks es := by
        unfold sumL
        rw [← HS.out]
        exact sortL_eq ltC_swo (hs1.map SumE.con ltC_con) (hs2.map SumE.con ltC_con ltC_swo)
      have Hcon := hide hcon
      have Hql := hide hql
      have HIO := hide hIO
      have Hoq := hide hoq
      clear hp hs1 hs2 hgq hbq hcon hql hIO HSo hCo hbw B14 ST lrr hoq
      have B10 := boxed h10
      have B14 := boxed h14
      have lrr : Later w11 w11 := Later.refl
      go_wp2_with fail
      have hW := blk_set (blk_set h10 0 (.int .i64 ep)) 1 (.slice SA cur.length SC)
      have r0 := blk_cell hW 0
      have r1 := blk_cell hW 1
      simp at r0 r1
      refine bodyPost_ret (v := .agg #[.int .i64 ep, .slice SA cur.length SC]) ?_ rfl ?_
      · simp [results, Try.results32, go_sem, r0, r1]
      · have hof := Hoq.out
        have hc := (show Own SumE.cells 5 41 w4.heap.size w11 (.slice SA q.length SC) q by rw [Hql.out]; exact hof)
        have g1 := own_off hc h10 (by decide)
        have h10' := blk_set h10 0 (.int .i64 ep)
        have hc1 := hc.far (p := ⟨w.heap.size + 1, 0, none⟩) g1 (.int .i64 ep)
        have hc2 := hc1.far (p := ⟨w.heap.size + 1, 1, none⟩) (own_off hc1 h10' (by decide)) (.slice SA cur.length SC)
        have hi2 : InsOwn w4.heap.size ((w11.setCell ⟨w.heap.size + 1, 0, none⟩ (.int .i64 ep)).setCell ⟨w.heap.size + 1, 1, none⟩ (.slice SA cur.length SC)) q := fun n hn => by
          have a1 := HIO.out n hn
          have a2 := a1.far (p := ⟨w.heap.size + 1, 0, none⟩) (own_off a1 h10 (by decide)) (.int .i64 ep)
          exact a2.far (p := ⟨w.heap.size + 1, 1, none⟩) (own_off a2 h10' (by decide)) _
        have hwz : w.heap.size ≤ w4.heap.size := by have := HB.out; omega
        refine ⟨q, SA, SC, Hcon, by rw [Hql.out], hc2.mono hwz, fun n hn => (hi2 n hn).mono hwz, ?_⟩
        exact (hb11.setCell (p := ⟨w.heap.size + 1, 0, none⟩) (by simp) _).setCell (p := ⟨w.heap.size + 1, 1, none⟩) (by simp) _
end Go.Proofs.Ytomgdkfoinojiaa

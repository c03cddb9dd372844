/-
  Small texts of this seat, put into one. Conditions stand in each theorem.
-/
import Derived.Test.YtpkfenlfgdbkcaaGreatDoorGrp36
import Derived.Test.YtpkfenlfgdbkcaaGreatDoorGrp34
import Derived.Test.YtpkfenlfgdbkcaaGreatDoorGrp30
import Derived.Deep.LoopGhost
import Derived.Deep.CutBlock
set_option linter.unusedSimpArgs false
set_option linter.unusedVariables false
namespace Go.Proofs.YtpkfenlfgdbkcaaGreatDoor
open Go.RowKit
attribute [local go_sem] Oper.semAt_some Instr.makeFunc
attribute [local simp] heap_drew
attribute [local go_sem ↓] run_eql_id run_neq_id
/-! ### A search by levels: the map of what comes before, the level -/
/-- What the closure keeps: all but the level's variable, the map and the level's own row. -/
structure KX (gL mg : Nat) (v : Value) (w w' : World) (v' : Value) : Prop where
  size : w.heap.size ≤ w'.heap.size
  k : ∀ (k : Nat) (ob : Obj), w.heap[k]? = some ob → k ≠ gL → k ≠ mg → v.ownBlock ≠ some k → w'.heap[k]? = some ob
  r : v'.ownBlock = v.ownBlock ∨ ∃ k, v'.ownBlock = some k ∧ w.heap.size ≤ k
theorem KX.refl {gL mg : Nat} {v : Value} {w : World} : KX gL mg v w w v := ⟨Nat.le_refl _, fun _ _ h _ _ _ => h, .inl rfl⟩
theorem KX.trans {gL mg : Nat} {v v' v'' : Value} {w w' w'' : World} (h : KX gL mg v w w' v') (h' : KX gL mg v' w' w'' v'') : KX gL mg v w w'' v'' := by
  refine ⟨Nat.le_trans h.size h'.size, fun k ob hk h1 h2 h3 => h'.k k ob (h.k k ob hk h1 h2 h3) h1 h2 fun e => ?_, ?_⟩
  · rcases h.r with hr | ⟨j, hr, hj⟩
    · exact h3 (hr ▸ e)
    · rw [hr] at e
      injection e with e
      have := (Array.getElem?_eq_some_iff.1 hk).1
      omega
  · rcases h'.r with hr | ⟨j, hr, hj⟩
    · rcases h.r with hr2 | hr2
      · exact .inl (hr.trans hr2)
      · exact .inr (by rw [hr]; exact hr2)
    · exact .inr ⟨j, hr, Nat.le_trans h.size hj⟩
theorem KX.of_below {gL mg : Nat} {v : Value} {w w' : World} (h : Below w.heap.size w w') : KX gL mg v w w' v := ⟨h.size, fun _ _ hk _ _ _ => blk_below hk h, .inl rfl⟩
structure LevAt (gL mg bo : Nat) (st : BefM × List IDE) (v : Value) (w : World) : Prop where
  b : w.heap[gL]? = some (.cells #[v] 48 (0, 0))
  o : Own IDE.cells 2 24 bo w v st.2
  m : MapFn IDE.vv IDE.vv w mg st.1
theorem LevAt.below {gL mg base : Nat} {st : BefM × List IDE} {v : Value} {w w' : World} (h : LevAt gL mg base st v w) (hb : Below w.heap.size w w') : LevAt gL mg base st v w' := ⟨blk_below h.b hb, h.o.below hb, h.m.below hb⟩
theorem LevAt.ne {gL mg bo : Nat} {st : BefM × List IDE} {v : Value} {w : World} (h : LevAt gL mg bo st v w) : gL ≠ mg := fun e => by
  obtain ⟨es, ck, h1, -⟩ := h.m
  have := h.b
  rw [e, h1] at this
  cases this
/-- Another own list outlives what the closure does. -/
theorem Own.kx {gL mg bo b : Nat} {st : BefM × List IDE} {v v' u : Value} {w w' : World} {l : List IDE} (h : Own IDE.cells 2 24 b w u l) (hL : LevAt gL mg bo st v w) (k : KX gL mg v w w' v') (ha : ∀ k, u.ownBlock = some k → v.ownBlock ≠ some k) : Own IDE.cells 2 24 b w' u l := by
  refine ⟨h.1, ?_⟩
  rcases h.2 with h0 | ⟨g, cap, cur, hv, hg, hc, rest⟩
  · exact .inl h0
  · refine .inr ⟨g, cap, cur, hv, hg, k.k g _ hc (fun e => ?_) (fun e => ?_) (ha g (by rw [hv]; rfl)), rest⟩
    · subst e; rw [hL.b] at hc; injection hc with hc; injection hc with _ h2; revert h2; decide
    · obtain ⟨es, ck, h1, -⟩ := hL.m
      rw [e, h1] at hc; cases hc
set_option maxRecDepth 100000 in
set_option maxHeartbeats 8000000 in
theorem search1_any (A : Option Addr) (c : Nat) (G : List NodeE) (gM gG gL mg base bo : Nat) (st : BefM × List IDE) (v : Value) (x y : IDE) (w : World) (H : NodesAt w A G) (hl : G.length ≤ 1000000) (hfl : ∀ n ∈ G, n.fields.length ≤ 1000000)
    (bM : w.heap[gM]? = some (.cells #[.map (some mg)] 123 (0, 0))) (bG : w.heap[gG]? = some (.cells #[.slice A G.length c] 36 (0, 0))) (hL : LevAt gL mg bo st v w) (hn : st.2.length ≤ 1000000) (hgL : base ≤ gL) (hmg : base ≤ mg) (hbo : base ≤ bo) (hbw : bo ≤ w.heap.size) :
    Calls Tryz.prog 52 #[x.v, y.v, .pointer (some ⟨gM, 0, none⟩), .pointer (some ⟨gG, 0, none⟩), .pointer (some ⟨gL, 0, none⟩)] w fun r w' => r = .returned (.tuple #[]) ∧ ∃ v', LevAt gL mg bo (visitB (conL G) st x y) v' w' ∧ KX gL mg v w w' v' ∧ Below base w w' := by
  have HF : ∀ u [Later w u], Calls Tryz.prog 18 #[.agg #[.slice A G.length c], x.v] u (FindPost (conL G) x u) := fun u i => find_any A c G x u (H.later u) (by omega) (fun n hn => by have := hfl n hn; omega)
  have hM := hL.m
  have hlk : ∀ (u : World) [Later w u], (Instr.lookup 123 (.map (some mg)) (.agg #[.int .i64 x.machine, .int .i64 x.serial]) true).run Tryz.prog u = .ok (.tuple #[(st.1 x).elim (.agg #[.int .i64 0, .int .i64 0]) IDE.vv, .bool (st.1 x).isSome]) u :=
    fun u i => run_look_ok keyI Tryz.underlying123 zeroId (hM.later u) x
  obtain ⟨fb, hfb⟩ : ∃ b, (firstN (conL G) x).isSome = b := ⟨_, rfl⟩
  obtain ⟨mb, hmb⟩ : ∃ b, (st.1 x).isSome = b := ⟨_, rfl⟩
  obtain ⟨mv, hmv⟩ : ∃ z : IDE, (st.1 x).elim (.agg #[.int .i64 0, .int .i64 0]) IDE.vv = z.vv := by
    cases st.1 x with
    | none => exact ⟨⟨0, 0⟩, rfl⟩
    | some z => exact ⟨z, rfl⟩
  unfold FindPost at HF
  rw [hfb] at HF
  simp only [hmb, hmv] at hlk
  have HFB := hide hfb
  have HMB := hide hmb
  clear hfb hmb hmv H
  obtain ⟨U, hU1, hU2, hU3, hU4⟩ := run_store keyI Tryz.underlying123 hM
  have hU1' := fun (u : World) [Later w u] => hU1 u x y
  dsimp only [IDE.vv] at hU1' hlk
  have BM := boxed bM
  have BG := boxed bG
  have lww : Later w w := Later.refl
  have hbz : base ≤ w.heap.size := Nat.le_of_lt (Nat.lt_of_le_of_lt hmg hM.lt)
  obtain ⟨OA, OC, rfl, -, -, -⟩ := hL.o.slAt IDE.enc
  have hLm : gL ≠ mg := fun e => by
    obtain ⟨es, ck, h1, -⟩ := hM
    have := hL.b
    rw [e, h1] at this
    cases this
  have hvm : (Value.slice OA st.2.length OC).ownBlock ≠ some mg := fun e => by
    obtain ⟨cs, h2⟩ := own_type hL.o e
    obtain ⟨es, ck, h1, -⟩ := hM
    rw [h1] at h2
    cases h2
  have hmgl := hM.lt
  go_enter Tryz.func52, Tryz.ntmps52
  go_upto_region 1 with fail
  refine wp_name ?_
  intro w1 hw1
  obtain ⟨B5, B6, l1⟩ := box2 hw1
  have lw1 : Later w w1 := l1 w
  have hz1 : w1.heap.size = w.heap.size + 1 + 1 := by rw [← hw1]; simp
  clear hw1
  cases fb
  · have he := hide (show visitB (conL G) st x y = st by unfold visitB; rw [HFB.out]; simp)
    go_wp2_with (go_at_call 18; refine (HF _).mono ?_; rintro r w3 ⟨m, rfl, -, -, -, -, hb3⟩; have l3 := later hb3)
    rw [he.out]
    refine ⟨rfl, _, results_none rfl _ _ _, rfl, .slice OA st.2.length OC, ?_, ?_, ?_⟩
    · exact hL.below below_of
    · exact KX.of_below below_of
    · exact (show Below w.heap.size w _ from below_of).mono hbz
  · cases mb
    · have he := hide (show visitB (conL G) st x y = (mupd st.1 x y, st.2 ++ [x]) by unfold visitB; rw [HFB.out, HMB.out]; simp)
      go_upto_region 4 with (go_at_call 18; refine (HF _).mono ?_; rintro r w3 ⟨m, rfl, -, -, -, -, hb3⟩; have l3 := later hb3)
      refine wp_name ?_
      intro w7 hw7
      have l7 : Later w1 w7 := ⟨by rw [← hw7]; exact below_of⟩
      clear hw7
      have lw7 : Later w w7 := lw1.trans l7
      have hF := hide (hU2 w7 x y)
      clear hU2 hU1 hU3 hU4
      go_upto_region 5 with fail
      refine wp_name ?_
      intro w8 hw8
      have M8 : MapFn IDE.vv IDE.vv w8 mg (mupd st.1 x y) := by rw [← hw8]; exact hF.out
      have B5' := boxed_putAt B5 (g := mg) (by omega) hw8
      have bL8 : w8.heap[gL]? = some (.cells #[.slice OA st.2.length OC] 48 (0, 0)) := by rw [← hw8, putAt_heap hLm]; exact blk_below hL.b lw7.below
      have BL8 := boxed bL8
      have o8 : Own IDE.cells 2 24 bo w8 (.slice OA st.2.length OC) st.2 := by rw [← hw8]; exact (hL.o.below lw7.below).putAt hvm
      have hz7 := lw7.below.size
      have hz8 : w.heap.size ≤ w8.heap.size := by rw [← hw8, putAt_size]; exact hz7
      have hz8b : bo ≤ w8.heap.size := Nat.le_trans hbw hz8
      have k8 : ∀ (k : Nat) (ob : Obj), w.heap[k]? = some ob → k ≠ mg → w8.heap[k]? = some ob := fun k ob hk h2 => by rw [← hw8, putAt_heap h2]; exact blk_below hk lw7.below
      have hb8 : Below base w w8 := by rw [← hw8]; exact putAt_below (lw7.below.mono hbz) hmg
      have l88 : Later w8 w8 := Later.refl
      clear hw8 hF hlk hU1' HF B5 B6 BM BG
      go_wp2_with (at_builtin; refine wpList_app1 rfl (.tmp 31) (.tmp 33) rfl IDE.enc idT x rfl rfl rfl (o8.later _) (by rfl) (by omega) (by unfold maxLen; omega) (Nat.le_trans hz8b (show Below w8.heap.size w8 _ from below_of).size) ?_; intro A' c' w9 ho hm hb hg hat; have bL9 := Step.keep ⟨hg, hat⟩ o8 bL8 (by decide); have BL9 := boxed bL9; have l99 : Later w9 w9 := Later.refl)
      rw [he.out]
      refine ⟨rfl, _, results_none rfl _ _ _, rfl, .slice A' (st.2.length + 1) c', ⟨?_, ?_, ?_⟩, ⟨?_, ?_, ?_⟩, ?_⟩
      · exact blk_set bL9 0 _
      · show Own IDE.cells 2 24 bo _ _ (st.2 ++ [x])
        exact ho.far (p := ⟨gL, 0, none⟩) (own_off ho bL9 (by decide)) _
      · refine M8.of_heap ((blk_far (p := ⟨gL, 0, none⟩) (fun e => hLm e.symm) _).trans (hg.block mg M8.lt fun e => hvm e.symm))
      · exact Nat.le_trans hz8 (Nat.le_trans hg.size (by simp [World.setCell]))
      · intro k ob hk h1 h2 h3
        exact (blk_far (p := ⟨gL, 0, none⟩) h1 _).trans ((hg.block k ((Array.getElem?_eq_some_iff.1 (k8 k ob hk h2)).1) fun e => h3 e.symm).trans (k8 k ob hk h2))
      · rcases hat with hat | ⟨k, h1, h2⟩
        · exact .inl hat
        · exact .inr ⟨k, h2, Nat.le_trans hz8 h1⟩
      · exact (hb8.trans (hb.mono hbo)).setCell (p := ⟨gL, 0, none⟩) hgL _
    · have he := hide (show visitB (conL G) st x y = st by unfold visitB; rw [HMB.out]; simp)
      go_wp2_with (go_at_call 18; refine (HF _).mono ?_; rintro r w3 ⟨m, rfl, -, -, -, -, hb3⟩; have l3 := later hb3)
      rw [he.out]
      refine ⟨rfl, _, results_none rfl _ _ _, rfl, .slice OA st.2.length OC, ?_, ?_, ?_⟩
      · exact hL.below below_of
      · exact KX.of_below below_of
      · exact (show Below w.heap.size w _ from below_of).mono hbz
end Go.Proofs.YtpkfenlfgdbkcaaGreatDoor

namespace Go.Proofs.YtpkfenlfgdbkcaaGreatDoor
open Go.RowKit
attribute [local go_sem] Oper.semAt_some Instr.makeFunc
attribute [local simp] heap_drew
attribute [local go_sem ↓] run_eql_id run_neq_id
theorem KX.ids {gL mg : Nat} {v v' : Value} {w w' : World} (k : KX gL mg v w w' v') {b : Nat} {cs : Array Value} {t : TypeId} {bo : Nat} {st : BefM × List IDE} (hL : LevAt gL mg bo st v w) (hb : w.heap[b]? = some (.cells cs t (0, 0))) (h1 : t ≠ 48) (h2 : t ≠ 24 ∨ v.ownBlock ≠ some b) : w'.heap[b]? = some (.cells cs t (0, 0)) := by
  refine k.k b _ hb (fun e => ?_) (fun e => ?_) fun e => ?_
  · subst e; rw [hL.b] at hb; injection hb with hb; injection hb with _ hb; exact h1 hb.symm
  · obtain ⟨es, ck, h3, -⟩ := hL.m
    rw [e, h3] at hb; cases hb
  · rcases h2 with h2 | h2
    · obtain ⟨cs', h3⟩ := own_type hL.o e
      rw [hb] at h3; injection h3 with h3; injection h3 with _ h3; exact h2 h3
    · exact h2 e
def SearchPost (G : List NodeC) (R : List IDE) (id : IDE) (w : World) (r : Ending) (w' : World) : Prop := ∃ q A c, Hid (q = searchL G R id) ∧ r = .returned (.slice A q.length c) ∧ Own IDE.cells 2 24 w.heap.size w' (.slice A q.length c) q ∧ Below w.heap.size w w'
set_option maxRecDepth 200000 in
set_option maxHeartbeats 16000000 in
theorem search_any (A : Option Addr) (c : Nat) (G : List NodeE) (RA : Option Addr) (rc : Nat) (R : List IDE) (id : IDE) (w : World) (H : NodesAt w A G) (hs : SlAt IDE.cells 2 w RA R) (hl : G.length ≤ 1000) (hfl : ∀ n ∈ G, n.fields.length ≤ 1000) (hr : R.length ≤ 10000) (hz0 : zeroI ∉ ids (conL G)) :
    Calls Tryz.prog 26 #[.agg #[.slice A G.length c], .slice RA R.length rc, id.v] w (SearchPost (conL G) R id w) := by
  have HL := H.later
  have hll : (conL G).length = G.length := by unfold conL; rw [List.length_map]
  have HSet : ∀ u [Later w u], Calls Tryz.prog 45 #[.slice RA R.length rc] u (SetIPost R u) := fun u i => setI_any RA rc R u (hs.below i.below) (by omega)
  have hmm := @run_makeMap Tryz.prog
  go_enter Tryz.func26, Tryz.ntmps26
  go_wp2_with fail
  go_step3
  go_upto_region 4 with fail
  clear hmm
  refine wp_name ?_
  intro w1 hw1
  have bG : w1.heap[w.heap.size]? = some (.cells #[.slice A G.length c] 36 (0, 0)) := (by rw [← hw1]; simp only [heap_alloc_if, World.size_alloc]; repeat (first | rw [if_pos trivial] | rw [if_neg (by omega)] | rw [if_pos (by omega)]); try rfl)
  have bI : w1.heap[w.heap.size + 1]? = some (.cells #[.int .i64 id.machine, .int .i64 id.serial] 24 (0, 0)) := (by rw [← hw1]; simp only [heap_alloc_if, World.size_alloc]; repeat (first | rw [if_pos trivial] | rw [if_neg (by omega)] | rw [if_pos (by omega)]); try rfl)
  have bm : w1.heap[w.heap.size + 1 + 1]? = some (.map #[] 0) := (by rw [← hw1]; simp only [heap_alloc_if, World.size_alloc]; repeat (first | rw [if_pos trivial] | rw [if_neg (by omega)] | rw [if_pos (by omega)]); try rfl)
  have bM : w1.heap[w.heap.size + 1 + 1 + 1]? = some (.cells #[.map (some (w.heap.size + 1 + 1))] 123 (0, 0)) := (by rw [← hw1]; simp only [heap_alloc_if, World.size_alloc]; repeat (first | rw [if_pos trivial] | rw [if_neg (by omega)] | rw [if_pos (by omega)]); try rfl)
  have bL : w1.heap[w.heap.size + 1 + 1 + 1 + 1]? = some (.cells #[.slice none 0 0] 48 (0, 0)) := (by rw [← hw1]; simp only [heap_alloc_if, World.size_alloc]; repeat (first | rw [if_pos trivial] | rw [if_neg (by omega)] | rw [if_pos (by omega)]); try rfl)
  have hb1 : Below w.heap.size w w1 := by rw [← hw1]; exact (by repeat (first | with_reducible exact Below.refl _ _ | (with_reducible refine Below.drew ?_) | (with_reducible refine below_drewN ?_ _) | (with_reducible refine Below.alloc ?_ ?_ _; rotate_left; (first | omega | (simp <;> omega))) | (with_reducible refine Below.setCell ?_ ?_ _; rotate_left; (first | omega | (simp <;> omega)))))
  have hz1 : w1.heap.size = w.heap.size + 1 + 1 + 1 + 1 + 1 := by rw [← hw1]; simp
  clear hw1
  have hM1 : MapFn IDE.vv IDE.vv w1 (w.heap.size + 1 + 1) (fun _ => none : BefM) := ⟨#[], 0, bm, by simp, by simp, by simp⟩
  obtain ⟨z, hz⟩ : ∃ z, z = w.heap.size := ⟨_, rfl⟩
  rw [← hz] at bG bI bm bM bL hM1 hz1 ⊢
  have lw1 : Later w w1 := ⟨hb1⟩
  replace hz := hide hz
  have HN : ∀ u, Below z w1 u → NodesAt u A G := fun u hu => H.below (hb1.trans (hz.out ▸ hu))
  have hz0' : ∀ x : IDE, (firstN (conL G) x).isSome = true → x ≠ zeroI := fun x hx e => hz0 (e ▸ firstN_ids.1 hx)
  go_wp2_with (go_at_call 45; refine (HSet _).mono ?_; rintro r w2 ⟨q, QA, QC, hq, rfl, hoq, hb2⟩; have l2 := later hb2)
  have hql : q.length ≤ 10000 := by rw [hq.out]; have := setI_len R; omega
  have bG2 := blk_below bG hb2
  have bI2 := blk_below bI hb2
  have bM2 := blk_below bM hb2
  have L2 : LevAt (z + 1 + 1 + 1 + 1) (z + 1 + 1) w1.heap.size (fun _ => none, []) (.slice none 0 0) w2 := ⟨blk_below bL hb2, Own.nil, hM1.below hb2⟩
  have hz2 := hb2.size
  have hKey := hide (BRel.start)
  clear bG bI bm bM bL hM1 HSet
  go_loopw [28] (fun i wr => ∃ (k : Nat) (b : BefM × List IDE) (v : Value), k ≤ q.length ∧ i = .int .i64 k ∧ Hid (BRel [] b ((q.take k).foldl (visitT (conL G) []) (fun _ => none, []))) ∧ LevAt (z + 1 + 1 + 1 + 1) (z + 1 + 1) w1.heap.size b v wr ∧ KX (z + 1 + 1 + 1 + 1) (z + 1 + 1) (.slice none 0 0) w2 wr v ∧ Below z w2 wr) (fun i _ => q.length - (intOf i).toNat)
  case atStart => exact ⟨0, _, _, by omega, rfl, hide BRel.start, L2, KX.refl, Below.refl _ _⟩
  case round =>
    obtain ⟨k, b, v, hk, rfl, hB, hLv, hkx, hbx⟩ := hrel
    have lrr : Later wr wr := Later.refl
    have hb1r : Below z w1 wr := (hb2.mono (by omega)).trans hbx
    have hbl : b.2.length ≤ G.length := by
      have h1 := (BfsOk.fold (G := conL G) (p := []) (ys := q.take k) (st := (fun _ => none, [])) ⟨List.nodup_nil, fun y => by simp, fun y hy => by cases hy⟩).len
      rw [hB.out.o] at h1
      simpa [hll] using h1
    by_cases hlt : k < q.length
    · have hoqr := hoq.kx L2 hkx (fun k _ h => by cases h)
      obtain ⟨gq, oq, x, hQA, hx, C1⟩ := IDE.get (hoqr.at_ IDE.enc).2.2 hlt
      subst hQA
      have hki : (k : Int) < (q.length : Int) := by omega
      have hT := hide (take_snoc_get hx)
      clear hx
      have hbn : Below wr.heap.size wr (wr.alloc (.cells x.arr 24)) := (Below.refl _ _).alloc (Nat.le_refl _) _
      have hzr := hbx.size
      have hcl := search1_any A c G (z + 1 + 1 + 1) z (z + 1 + 1 + 1 + 1) (z + 1 + 1) z w1.heap.size b v x zeroI (wr.alloc (.cells x.arr 24)) (HN _ (hb1r.trans (hbn.mono (by omega)))) (by omega) (fun n hn => by have := hfl n hn; omega) (blk_below (hkx.ids L2 bM2 (by decide) (.inl (by decide))) hbn) (blk_below (hkx.ids L2 bG2 (by decide) (.inl (by decide))) hbn) (hLv.below hbn) (by omega) (by omega) (by omega) (by omega) (by simp; omega)
      go_wp2_with (go_at_call 52; refine hcl.mono ?_; rintro r w4 ⟨rfl, v', hL', hk', hb'⟩)
      go_roundw
      case rel =>
        refine ⟨k + 1, _, v', by omega, by go_num, hide ?_, hL', (hkx.trans (KX.of_below hbn)).trans hk', hbx.trans ((hbn.mono (by omega)).trans hb')⟩
        rw [hT.out, List.foldl_append]
        exact hB.out.visit (.inl ⟨rfl, rfl⟩) x
      case measure => simp [intOf]; omega
    · have hk' : k = q.length := by omega
      subst hk'
      rw [List.take_length] at hB
      clear hKey
      have hB0 := hide (show BRel [] b (bfsT (conL G) R 0) by have := hB.out; rw [hq.out] at this; exact this)
      have bGr := hkx.ids L2 bG2 (by decide) (.inl (by decide))
      have bMr := hkx.ids L2 bM2 (by decide) (.inl (by decide))
      have bIr := hkx.ids L2 bI2 (by decide) (.inr (by intro h; cases h))
      obtain ⟨wA, rfl⟩ : ∃ y, y = wr := ⟨_, rfl⟩
      clear hB hq hql hoq bG2 bI2 bM2 L2 hkx hbl
      go_wp2_with fail
      go_step3
      go_wp2_with fail
      go_loopg [] G.length (fun g wr => ∃ (i : Nat) (b : BefM × List IDE) (v : Value), Hid (i ≤ (bfsT (conL G) R i).2.length) ∧ Hid (BRel ((bfsT (conL G) R i).2.take i) b (bfsT (conL G) R i)) ∧ LevAt (z + 1 + 1 + 1 + 1) (z + 1 + 1) w1.heap.size b v wr ∧ G.length - i ≤ g ∧
        wr.heap[z]? = some (.cells #[.slice A G.length c] 36 (0, 0)) ∧ wr.heap[z + 1]? = some (.cells #[.int .i64 id.machine, .int .i64 id.serial] 24 (0, 0)) ∧ wr.heap[z + 1 + 1 + 1]? = some (.cells #[.map (some (z + 1 + 1))] 123 (0, 0)) ∧ Below z w1 wr)
      case atStart => exact ⟨0, b, v, hide (Nat.zero_le _), hide (by rw [List.take_zero]; exact hB0.out), hLv, by omega, bGr, bIr, bMr, hb1r⟩
      case round =>
        clear hB0 hLv hb1r hbx hb2 bGr bMr bIr lrr
        obtain ⟨i, b, v, hi, hB, hLv, hg, bG, bI, bM, hb⟩ := hrel
        obtain ⟨gO, rfl⟩ : ∃ y, y = gk := ⟨_, rfl⟩
        obtain ⟨OA, OC, rfl, -, -, -⟩ := hLv.o.slAt IDE.enc
        have lrr : Later wr wr := Later.refl
        have BL := boxed hLv.b
        have hlen : (bfsT (conL G) R i).2.length ≤ G.length := by rw [← hll]; exact (bfs_ok (conL G) R i).len
        obtain ⟨j, hj⟩ : ∃ j, j = (bfsT (conL G) R i).2.length := ⟨_, rfl⟩
        have hij : i + b.2.length = j := by
          have := congrArg List.length hB.out.o
          rw [List.length_append, List.length_take, ← hj] at this
          have := hi.out
          omega
        rw [← hj] at hlen
        have Hj := hide hj
        clear hj
        by_cases hlt : 0 < b.2.length
        · have hbi : (0 : Int) < (b.2.length : Int) := by omega
          go_upto_region 12 with fail
          refine wp_name ?_
          intro w3 hw3
          have L3 : LevAt (z + 1 + 1 + 1 + 1) (z + 1 + 1) w1.heap.size (b.1, []) (.slice none 0 0) w3 := by
            rw [← hw3]
            exact ⟨blk_set hLv.b 0 _, Own.nil, hLv.m.of_heap (blk_far (p := ⟨z + 1 + 1 + 1 + 1, 0, none⟩) (fun e => hLv.ne e.symm) _)⟩
          have hold : Own IDE.cells 2 24 w1.heap.size w3 (.slice OA b.2.length OC) b.2 := by rw [← hw3]; exact hLv.o.far (p := ⟨z + 1 + 1 + 1 + 1, 0, none⟩) (own_off hLv.o hLv.b (by decide)) _
          have bG3 : w3.heap[z]? = some (.cells #[.slice A G.length c] 36 (0, 0)) := by rw [← hw3]; exact (blk_far (p := ⟨z + 1 + 1 + 1 + 1, 0, none⟩) (by show z ≠ z + 1 + 1 + 1 + 1; omega) _).trans bG
          have bI3 : w3.heap[z + 1]? = some (.cells #[.int .i64 id.machine, .int .i64 id.serial] 24 (0, 0)) := by rw [← hw3]; exact (blk_far (p := ⟨z + 1 + 1 + 1 + 1, 0, none⟩) (by show z + 1 ≠ z + 1 + 1 + 1 + 1; omega) _).trans bI
          have bM3 : w3.heap[z + 1 + 1 + 1]? = some (.cells #[.map (some (z + 1 + 1))] 123 (0, 0)) := by rw [← hw3]; exact (blk_far (p := ⟨z + 1 + 1 + 1 + 1, 0, none⟩) (by show z + 1 + 1 + 1 ≠ z + 1 + 1 + 1 + 1; omega) _).trans bM
          have hb3 : Below z w1 w3 := by rw [← hw3]; exact hb.setCell (p := ⟨z + 1 + 1 + 1 + 1, 0, none⟩) (by show z ≤ z + 1 + 1 + 1 + 1; omega) _
          clear hw3 BL
          have hB3 := hide (show BRel (bfsT (conL G) R i).2 (b.1, []) (bfsT (conL G) R i) from ⟨hB.out.r, by simp⟩)
          have hz3 := hb3.size
          go_wp2_with fail
          go_loopg [43] b.2.length (fun g s43 wq => ∃ (k : Nat) (b' : BefM × List IDE) (v' : Value), k ≤ b.2.length ∧ s43 = .int .i64 k ∧ Hid (BRel (bfsT (conL G) R i).2 b' (bfsT (conL G) R (i + k))) ∧ LevAt (z + 1 + 1 + 1 + 1) (z + 1 + 1) w1.heap.size b' v' wq ∧ KX (z + 1 + 1 + 1 + 1) (z + 1 + 1) (.slice none 0 0) w3 wq v' ∧ Below z w3 wq ∧ b.2.length - k ≤ g)
          case atStart => exact ⟨0, _, _, Nat.zero_le _, rfl, hB3, L3, KX.refl, Below.refl _ _, by omega⟩
          case round =>
            obtain ⟨k, b', v', hk, rfl, hB', hL', hkx, hbx, hg2⟩ := hrel
            have lrr : Later wr wr := Later.refl
            have hoqr := hold.kx L3 hkx (fun k _ h => by cases h)
            have bGr := hkx.ids L3 bG3 (by decide) (.inl (by decide))
            have bMr := hkx.ids L3 bM3 (by decide) (.inl (by decide))
            have bIr := hkx.ids L3 bI3 (by decide) (.inr (by intro h; cases h))
            have BG := boxed bGr
            have BI := boxed bIr
            have hb1r : Below z w1 wr := hb3.trans hbx
            by_cases hlt2 : k < b.2.length
            · obtain ⟨gq, oq, x, hQA, hx, C1⟩ := IDE.get (hoqr.at_ IDE.enc).2.2 hlt2
              subst hQA
              have hki : (k : Int) < (b.2.length : Int) := by omega
              have hxi := hide (show (bfsT (conL G) R i).2[i + k]? = some x by
                have h1 := hi.out
                rw [hB.out.o, List.getElem?_append_right (by rw [List.length_take]; omega), List.length_take, Nat.min_eq_left (by rw [← Hj.out] at h1 ⊢; exact h1), Nat.add_sub_cancel_left]
                exact hx)
              clear hx
              cases hp : ideq x.machine x.serial id.machine id.serial
              · go_upto_region 16 with fail
                refine wp_name ?_
                intro w5 hw5
                have b14 : w5.heap[wr.heap.size]? = some (.cells #[.int .i64 x.machine, .int .i64 x.serial] 24 (0, 0)) := (by rw [← hw5]; simp only [heap_alloc_if, World.size_alloc]; repeat (first | rw [if_pos trivial] | rw [if_neg (by omega)] | rw [if_pos (by omega)]); try rfl)
                have hb5 : Below wr.heap.size wr w5 := by rw [← hw5]; exact (by repeat (first | with_reducible exact Below.refl _ _ | (with_reducible refine Below.drew ?_) | (with_reducible refine below_drewN ?_ _) | (with_reducible refine Below.alloc ?_ ?_ _; rotate_left; (first | omega | (simp <;> omega))) | (with_reducible refine Below.setCell ?_ ?_ _; rotate_left; (first | omega | (simp <;> omega)))))
                clear hw5
                have B14 := boxed b14
                have BG5 := boxed (blk_below bGr hb5)
                have l55 : Later w5 w5 := Later.refl
                have hzr := hbx.size
                have hb15 : Below z w1 w5 := hb1r.trans (hb5.mono (by omega))
                have HF : ∀ u [Later w5 u], Calls Tryz.prog 18 #[.agg #[.slice A G.length c], x.v] u (FindPost (conL G) x u) := fun u i => find_any A c G x u (HN u (hb15.trans (i.below.mono (by have := hb15.size; have := hb5.size; omega)))) (by omega) (fun n hn => by have := hfl n hn; omega)
                have h14 : (v' : Value).ownBlock ≠ some wr.heap.size := fun e => absurd (World.ownsRow.lt hL'.o _ e).2 (Nat.lt_irrefl _)
                have L5 := hL'.below hb5
                go_wp2_with (go_at_call 18; refine (HF _).mono ?_; rintro r w6 ⟨m, rfl, hmc, hmo, -, -, hb6⟩; have l6 := later hb6)
                have hml : m.fields.length ≤ 1000 := by
                  have h1 := congrArg (fun n => n.fields.length) hmc.out
                  change m.fields.length = _ at h1
                  rw [h1]
                  cases hf : firstN (conL G) x with
                  | none => exact Nat.zero_le _
                  | some n =>
                    obtain ⟨h2, -⟩ := firstN_some hf
                    obtain ⟨n', h3, rfl⟩ := List.mem_map.1 h2
                    exact hfl n' h3
                have hms := (hmo.at_ ValE.enc).2.2
                have hbn : Below w6.heap.size w6 (w6.alloc (.cells #[.int .i64 m.iDMachine, .int .i64 m.iDSerial, .int .i64 m.kind, .int .i64 m.clas, .slice m.A m.fields.length m.c] 41)) := (Below.refl _ _).alloc (Nat.le_refl _) _
                refine (next_any m _ (hms.below hbn) (by omega)).mono ?_
                rintro r w8 ⟨s8, SA, SC, hs8, rfl, hos8, hb8⟩
                have hbn8 : Below w6.heap.size w6 w8 := hbn.trans (hb8.mono hbn.size)
                have hb58 : Below w5.heap.size w5 w8 := hb6.trans (hbn8.mono hb6.size)
                have hbr8 : Below wr.heap.size wr w8 := hb5.trans (hb58.mono hb5.size)
                have L8 := hL'.below hbr8
                have b148 := blk_below b14 hb58
                have bG8 := blk_below bGr hbr8
                have bM8 := blk_below bMr hbr8
                have hz8 := hbr8.size
                have hso8 : ∀ k, (Value.slice SA s8.length SC).ownBlock = some k → (v' : Value).ownBlock ≠ some k := fun k h h2 => by
                  have h1 := (World.ownsRow.lt hos8 k h).1
                  have h2 := (World.ownsRow.lt hL'.o k h2).2
                  have := hbn8.size
                  have := hb6.size
                  have := hb5.size
                  have := hbn.size
                  omega
                have hxm := bfs_old (G := conL G) (R := R) (Nat.le_add_right i k) hxi.out
                obtain ⟨p, hp'⟩ := path_some (List.mem_of_getElem? hxm)
                have hxz : x ≠ zeroI := fun e => hz0 (e ▸ (bfs_ok (conL G) R (i + k)).inG x (List.mem_of_getElem? hxm))
                have hfro := hide (show Fro (bfsT (conL G) R (i + k)).1 x p from .inr ⟨hxz, hp'⟩)
                have hnx := hide (show bfsT (conL G) R (i + (k + 1)) = s8.foldl (visitT (conL G) p) (bfsT (conL G) R (i + k)) by
                  rw [← Nat.add_assoc, bfs_next hxm]
                  unfold nextsT succI
                  rw [hp', hs8.out, hmc.out]
                  rfl)
                have hbok := hide (bfs_ok (conL G) R (i + k))
                obtain ⟨T0, hT0⟩ : ∃ T, T = bfsT (conL G) R (i + k) := ⟨_, rfl⟩
                obtain ⟨o, ho⟩ : ∃ o, o = (bfsT (conL G) R i).2 := ⟨_, rfl⟩
                have hHo := hide ho
                rw [← hT0] at hfro hnx hbok hB'
                rw [← ho] at hB'
                have hs8l : s8.length ≤ 1000 := by
                  rw [hs8.out]
                  have h1 := setI_len (refsOf m.con)
                  have h2 : (refsOf m.con).length ≤ m.fields.length := refsOf_len m.con
                  omega
                clear hp' hxz hxm hs8 hmc hmo hms hml HF B14 BG5 L5 ho hT0
                go_wp2_with fail
                go_loopw [59] (fun s59 wq => ∃ (t : Nat) (b2 : BefM × List IDE) (v2 : Value), t ≤ s8.length ∧ s59 = .int .i64 t ∧ Hid (BRel o b2 ((s8.take t).foldl (visitT (conL G) p) T0)) ∧ LevAt (z + 1 + 1 + 1 + 1) (z + 1 + 1) w1.heap.size b2 v2 wq ∧ KX (z + 1 + 1 + 1 + 1) (z + 1 + 1) v' w8 wq v2 ∧ Below z w8 wq) (fun s59 _ => s8.length - (intOf s59).toNat)
                case atStart => exact ⟨0, _, _, Nat.zero_le _, rfl, hB', L8, KX.refl, Below.refl _ _⟩
                case round =>
                  obtain ⟨t, b2, v2, ht, rfl, hB2, hL2, hkx2, hbx2⟩ := hrel
                  have lrr : Later wr wr := Later.refl
                  have hzr2 := hbx2.size
                  by_cases hlt3 : t < s8.length
                  · have hosr := hos8.kx L8 hkx2 hso8
                    obtain ⟨gy, oy, y, hSA, hy, C2⟩ := IDE.get (hosr.at_ IDE.enc).2.2 hlt3
                    subst hSA
                    have hti : (t : Int) < (s8.length : Int) := by omega
                    have hTy := hide (take_snoc_get hy)
                    clear hy
                    have B14 := boxed (hkx2.ids L8 b148 (by decide) (.inr h14))
                    have hb2l : b2.2.length ≤ G.length := by
                      have h1 := (BfsOk.fold (p := p) (ys := s8.take t) hbok.out).len
                      rw [hB2.out.o, List.length_append, hll] at h1
                      omega
                    have hbn2 : Below wr.heap.size wr (wr.alloc (.cells y.arr 24)) := (Below.refl _ _).alloc (Nat.le_refl _) _
                    have hb1q : Below z w1 wr := (hb1r.trans (hbr8.mono (by omega))).trans hbx2
                    have hcl := search1_any A c G (z + 1 + 1 + 1) z (z + 1 + 1 + 1 + 1) (z + 1 + 1) z w1.heap.size b2 v2 y x (wr.alloc (.cells y.arr 24)) (HN _ (hb1q.trans (hbn2.mono (by omega)))) (by omega) (fun n hn => by have := hfl n hn; omega) (blk_below (hkx2.ids L8 bM8 (by decide) (.inl (by decide))) hbn2) (blk_below (hkx2.ids L8 bG8 (by decide) (.inl (by decide))) hbn2) (hL2.below hbn2) (by omega) (by omega) (by omega) (by omega) (by simp; omega)
                    go_wp2_with (go_at_call 52; refine hcl.mono ?_; rintro r w9 ⟨rfl, v3, hL3, hk3, hb3'⟩)
                    go_roundw
                    case rel =>
                      refine ⟨t + 1, _, v3, by omega, by go_num, hide ?_, hL3, (hkx2.trans (KX.of_below hbn2)).trans hk3, hbx2.trans ((hbn2.mono (by omega)).trans hb3')⟩
                      rw [hTy.out, List.foldl_append]
                      exact hB2.out.visit (hfro.out.mono mono_fold) y
                    case measure => simp [intOf]; omega
                  · have ht' : t = s8.length := by omega
                    subst ht'
                    rw [List.take_length] at hB2
                    go_wp2_with fail
                    go_roundg (gk - 1)
                    case measure => omega
                    case rel =>
                      refine ⟨k + 1, b2, v2, by omega, by go_num, hide (by rw [hnx.out, ← hHo.out]; exact hB2.out), hL2, (hkx.trans (KX.of_below hbr8)).trans hkx2, hbx.trans ((hbr8.mono (by omega)).trans hbx2), by omega⟩
              · have hxid := hide (show x = id by rw [ideq_iff] at hp; exact of_decide_eq_true hp)
                go_upto_region 23 with fail
                have hPT : (bfsT (conL G) R (i + k)).1 id = pathsT (conL G) R id := by rw [← hxid.out]; exact paths_at (bfs_old (Nat.le_add_right i k) hxi.out)
                have hM := hL'.m
                have BI' := boxed bIr
                have BM' := boxed bMr
                have lrr : Later wr wr := Later.refl
                have hbw : Below w.heap.size w wr := hb1.trans (hz.out ▸ hb1r)
                have hzw := hbw.size
                have hHR := hide hB'.out.r
                have hlk : ∀ (u : World) [Later wr u] (x : IDE), (Instr.lookup 123 (.map (some (z + 1 + 1))) (.agg #[.int .i64 x.machine, .int .i64 x.serial]) true).run Tryz.prog u = .ok (.tuple #[((b').1 x).elim (.agg #[.int .i64 0, .int .i64 0]) IDE.vv, .bool ((b').1 x).isSome]) u :=
                  fun u i x => run_look_ok keyI Tryz.underlying123 zeroId (hM.later u) x
                have hlk2 : ∀ (u : World) [Later wr u] (x f : IDE), (b').1 x = some f → (Instr.lookup 123 (.map (some (z + 1 + 1))) (.agg #[.int .i64 x.machine, .int .i64 x.serial]) false).run Tryz.prog u = .ok (.agg #[.int .i64 f.machine, .int .i64 f.serial]) u :=
                  fun u i x f hx => by
                    have := run_look keyI Tryz.underlying123 zeroId (hM.later u) x
                    rw [hx] at this
                    exact this
                obtain ⟨pl, hpl⟩ : ∃ o, pathsT (conL G) R id = o := ⟨_, rfl⟩
                have hsl := hide (show searchL (conL G) R id = pl.getD [] by unfold searchL; rw [hpl])
                have hTi := hide (show (bfsT (conL G) R (i + k)).1 id = pl by rw [hPT, hpl])
                have hpln := hide (show ∀ l, pl = some l → l.length ≤ G.length ∧ id ≠ zeroI from fun l e => ⟨by rw [← hll]; exact paths_len (hpl.trans e), fun ez => hz0 (ez ▸ (bfs_ok (conL G) R (conL G).length).inG id (((bfs_ok (conL G) R (conL G).length).mem id).2 (by show (pathsT (conL G) R id).isSome = true; rw [hpl, e]; rfl)))⟩)
                have hMi := hide (show ((b').1 id).isSome = pl.isSome by rw [hHR.out.n id, hTi.out])
                clear hpl
                have hlki := fun (u : World) (i : Later wr u) => hlk u id
                obtain ⟨mv, hmv⟩ : ∃ z : IDE, ((b').1 id).elim (.agg #[.int .i64 0, .int .i64 0]) IDE.vv = z.vv := by
                  cases (b').1 id with
                  | none => exact ⟨⟨0, 0⟩, rfl⟩
                  | some z => exact ⟨z, rfl⟩
                simp only [hMi.out, hmv] at hlki
                have hlki := fun (u : World) [i : Later wr u] => hlki u i
                dsimp only [IDE.vv] at hlki
                clear hlk
                cases pl with
                | none =>
                  dsimp only [Option.isSome] at hlki
                  go_wp2_with fail
                  rw [Exit.noGoto_ret]
                  go_ret
                  exact ⟨[], none, 0, hide (by rw [hsl.out]; rfl), rfl, Own.nil, hbw.trans ((show Below wr.heap.size wr _ from below_of).mono hzw)⟩
                | some l =>
                  dsimp only [Option.isSome] at hlki
                  obtain ⟨hll2, hidz⟩ := hpln.out l rfl
                  obtain ⟨wT, rfl⟩ : ∃ y, y = wr := ⟨_, rfl⟩
                  go_upto_region 27 with fail
                  refine wp_name ?_
                  intro w7 hw7
                  have hb7 : Below wT.heap.size wT w7 := by rw [← hw7]; exact below_of
                  clear hw7
                  have lT7 : Later wT w7 := ⟨hb7⟩
                  have BI' := boxed (blk_below bIr hb7)
                  have l77 : Later w7 w7 := Later.refl
                  go_wp2_with fail
                  go_loopg [19, 22] l.length (fun g s19 s22 wq => ∃ (lf o : List IDE) (x : IDE) (gx : Nat) (OA : Option Addr) (OC : Nat), s19 = .slice OA o.length OC ∧ s22 = .pointer (some ⟨gx, 0, none⟩) ∧ Hid (l = lf ++ o.reverse) ∧ Hid (Fro (bfsT (conL G) R (i + k)).1 x lf) ∧ lf.length ≤ g ∧ wq.heap[gx]? = some (.cells #[.int .i64 x.machine, .int .i64 x.serial] 24 (0, 0)) ∧ (Value.slice OA o.length OC).ownBlock ≠ some gx ∧ Own IDE.cells 2 24 wT.heap.size wq (.slice OA o.length OC) o ∧ Below wT.heap.size wT wq)
                  case atStart =>
                    exact ⟨l, [], id, _, none, 0, rfl, rfl, hide (by simp), hide (.inr ⟨hidz, hTi.out⟩), Nat.le_refl _, heap_alloc_new _ _, (by intro h; cases h), Own.nil, below_of⟩
                  case round =>
                    obtain ⟨lf, o, x, gx, OA, OC, rfl, rfl, hlo, hfr, hlg, bX, hne, hown, hbq⟩ := hrel
                    have lrr : Later wr wr := Later.refl
                    have lTr : Later wT wr := ⟨hbq⟩
                    have BX := boxed bX
                    have hol : o.length ≤ 1000 := by
                      have := congrArg List.length hlo.out
                      rw [List.length_append, List.length_reverse] at this
                      omega
                    cases hp : ideq x.machine x.serial 0 0
                    · have hxz : x ≠ zeroI := fun e => by subst e; cases hp
                      obtain ⟨f, p', h1, h2, h3⟩ := (hHR.out.c x lf (by rcases hfr.out with h | h; exact absurd h.1 hxz; exact h.2))
                      have hlkx := fun (u : World) [i : Later wT u] => hlk2 u x f h1
                      have hlf := hide h2
                      have hff := hide h3
                      have hlfn := congrArg List.length h2
                      rw [List.length_append, List.length_singleton] at hlfn
                      clear h1 h2 h3 hlki
                      have hbd := hbq.size
                      go_wp2_with (at_builtin; refine wpList_app1 rfl (.tmp 84) (.tmp 86) rfl IDE.enc idT x rfl rfl rfl (hown.later _) (by rfl) (by omega) (by unfold maxLen; omega) (Nat.le_trans hbd (show Below wr.heap.size wr _ from below_of).size) ?_; intro A' c' w6 ho hm hb hg hat; have bX6 := (hg.block gx (Array.getElem?_eq_some_iff.1 bX).1 fun e => hne e.symm).trans bX; have BX6 := boxed bX6; have lT6 : Later wT w6 := ⟨hbq.trans hb⟩; have l66 : Later w6 w6 := Later.refl)
                      have hbn : Below w6.heap.size w6 (w6.alloc (.cells #[.int .i64 f.machine, .int .i64 f.serial] 24)) := (Below.refl _ _).alloc (Nat.le_refl _) _
                      go_roundg (gk - 1)
                      case measure => omega
                      case rel =>
                        exact ⟨p', o ++ [x], f, _, A', c', by rw [List.length_append]; rfl, rfl, hide (by rw [hlo.out, hlf.out]; simp), hff, by omega, heap_alloc_new _ _, (fun h => absurd (World.ownsRow.lt ho _ (by rw [List.length_append] at h; exact h)).2 (Nat.lt_irrefl _)), by rw [List.length_append]; exact ho.below hbn, lT6.below.trans (hbn.mono lT6.below.size)⟩
                    · have hxz : x = zeroI := by
                        have := ideq_iff (a := x) (b := zeroI)
                        rw [show ideq x.machine x.serial zeroI.machine zeroI.serial = true from hp] at this
                        exact of_decide_eq_true this.symm
                      have hlf0 : lf = [] := by
                        rcases hfr.out with h | h
                        · exact h.2
                        · exact absurd hxz h.1
                      have hlo2 := hide (show l = o.reverse by rw [hlo.out, hlf0]; rfl)
                      have hRv := reverse_any OA OC o wT.heap.size wr hown (by omega) hbq.size
                      go_wp2_with (go_at_call 54; refine hRv.mono ?_; rintro r w9 ⟨rfl, ho9, hb9, -⟩)
                      go_wp2_with fail
                      rw [Exit.noGoto_ret]
                      go_ret
                      have hlr := hide (show o.reverse.length = o.length by rw [List.length_reverse])
                      refine ⟨o.reverse, OA, OC, hide (by rw [hsl.out, hlo2.out]; rfl), by rw [hlr.out]; rfl, ?_, hbw.trans ((hbq.trans hb9).mono hzw)⟩
                      rw [hlr.out]
                      exact ho9.mono hzw
            · have hk' : k = b.2.length := by omega
              subst hk'
              rw [hij] at hB'
              have hpre := hide (show ∃ e, (bfsT (conL G) R j).2 = (bfsT (conL G) R i).2 ++ e from (bfs_mono (by omega)).o)
              go_wp2_with fail
              go_roundg (gO - 1)
              case measure => omega
              case rel =>
                obtain ⟨e, he⟩ := hpre.out
                refine ⟨j, b', v', hide (by rw [he, List.length_append, ← Hj.out]; omega), hide ?_, hL', by omega, bGr, bIr, bMr, hb1r⟩
                rw [show (bfsT (conL G) R j).2.take j = (bfsT (conL G) R i).2 by rw [he, List.take_append_of_le_length (by rw [← Hj.out]; omega), List.take_of_length_le (by rw [← Hj.out]; omega)]]
                exact hB'.out
        · go_upto_region 23 with fail
          have hPT : (bfsT (conL G) R i).1 id = pathsT (conL G) R id := by rw [paths_stop (n := i) (by rw [← Hj.out]; omega) (by rw [hll]; omega)]
          have hM := hLv.m
          have BI' := boxed bI
          have BM' := boxed bM
          have lrr : Later wr wr := Later.refl
          have hbw : Below w.heap.size w wr := hb1.trans (hz.out ▸ hb)
          have hzw := hbw.size
          have hHR := hide hB.out.r
          have hlk : ∀ (u : World) [Later wr u] (x : IDE), (Instr.lookup 123 (.map (some (z + 1 + 1))) (.agg #[.int .i64 x.machine, .int .i64 x.serial]) true).run Tryz.prog u = .ok (.tuple #[((b).1 x).elim (.agg #[.int .i64 0, .int .i64 0]) IDE.vv, .bool ((b).1 x).isSome]) u :=
            fun u i x => run_look_ok keyI Tryz.underlying123 zeroId (hM.later u) x
          have hlk2 : ∀ (u : World) [Later wr u] (x f : IDE), (b).1 x = some f → (Instr.lookup 123 (.map (some (z + 1 + 1))) (.agg #[.int .i64 x.machine, .int .i64 x.serial]) false).run Tryz.prog u = .ok (.agg #[.int .i64 f.machine, .int .i64 f.serial]) u :=
            fun u i x f hx => by
              have := run_look keyI Tryz.underlying123 zeroId (hM.later u) x
              rw [hx] at this
              exact this
          obtain ⟨pl, hpl⟩ : ∃ o, pathsT (conL G) R id = o := ⟨_, rfl⟩
          have hsl := hide (show searchL (conL G) R id = pl.getD [] by unfold searchL; rw [hpl])
          have hTi := hide (show (bfsT (conL G) R i).1 id = pl by rw [hPT, hpl])
          have hpln := hide (show ∀ l, pl = some l → l.length ≤ G.length ∧ id ≠ zeroI from fun l e => ⟨by rw [← hll]; exact paths_len (hpl.trans e), fun ez => hz0 (ez ▸ (bfs_ok (conL G) R (conL G).length).inG id (((bfs_ok (conL G) R (conL G).length).mem id).2 (by show (pathsT (conL G) R id).isSome = true; rw [hpl, e]; rfl)))⟩)
          have hMi := hide (show ((b).1 id).isSome = pl.isSome by rw [hHR.out.n id, hTi.out])
          clear hpl
          have hlki := fun (u : World) (i : Later wr u) => hlk u id
          obtain ⟨mv, hmv⟩ : ∃ z : IDE, ((b).1 id).elim (.agg #[.int .i64 0, .int .i64 0]) IDE.vv = z.vv := by
            cases (b).1 id with
            | none => exact ⟨⟨0, 0⟩, rfl⟩
            | some z => exact ⟨z, rfl⟩
          simp only [hMi.out, hmv] at hlki
          have hlki := fun (u : World) [i : Later wr u] => hlki u i
          dsimp only [IDE.vv] at hlki
          clear hlk
          cases pl with
          | none =>
            dsimp only [Option.isSome] at hlki
            go_wp2_with fail
            rw [Exit.noGoto_ret]
            go_ret
            exact ⟨[], none, 0, hide (by rw [hsl.out]; rfl), rfl, Own.nil, hbw.trans ((show Below wr.heap.size wr _ from below_of).mono hzw)⟩
          | some l =>
            dsimp only [Option.isSome] at hlki
            obtain ⟨hll2, hidz⟩ := hpln.out l rfl
            obtain ⟨wT, rfl⟩ : ∃ y, y = wr := ⟨_, rfl⟩
            go_upto_region 27 with fail
            refine wp_name ?_
            intro w7 hw7
            have hb7 : Below wT.heap.size wT w7 := by rw [← hw7]; exact below_of
            clear hw7
            have lT7 : Later wT w7 := ⟨hb7⟩
            have BI' := boxed (blk_below bI hb7)
            have l77 : Later w7 w7 := Later.refl
            go_wp2_with fail
            go_loopg [19, 22] l.length (fun g s19 s22 wq => ∃ (lf o : List IDE) (x : IDE) (gx : Nat) (OA : Option Addr) (OC : Nat), s19 = .slice OA o.length OC ∧ s22 = .pointer (some ⟨gx, 0, none⟩) ∧ Hid (l = lf ++ o.reverse) ∧ Hid (Fro (bfsT (conL G) R i).1 x lf) ∧ lf.length ≤ g ∧ wq.heap[gx]? = some (.cells #[.int .i64 x.machine, .int .i64 x.serial] 24 (0, 0)) ∧ (Value.slice OA o.length OC).ownBlock ≠ some gx ∧ Own IDE.cells 2 24 wT.heap.size wq (.slice OA o.length OC) o ∧ Below wT.heap.size wT wq)
            case atStart =>
              exact ⟨l, [], id, _, none, 0, rfl, rfl, hide (by simp), hide (.inr ⟨hidz, hTi.out⟩), Nat.le_refl _, heap_alloc_new _ _, (by intro h; cases h), Own.nil, below_of⟩
            case round =>
              obtain ⟨lf, o, x, gx, OA, OC, rfl, rfl, hlo, hfr, hlg, bX, hne, hown, hbq⟩ := hrel
              have lrr : Later wr wr := Later.refl
              have lTr : Later wT wr := ⟨hbq⟩
              have BX := boxed bX
              have hol : o.length ≤ 1000 := by
                have := congrArg List.length hlo.out
                rw [List.length_append, List.length_reverse] at this
                omega
              cases hp : ideq x.machine x.serial 0 0
              · have hxz : x ≠ zeroI := fun e => by subst e; cases hp
                obtain ⟨f, p', h1, h2, h3⟩ := (hHR.out.c x lf (by rcases hfr.out with h | h; exact absurd h.1 hxz; exact h.2))
                have hlkx := fun (u : World) [i : Later wT u] => hlk2 u x f h1
                have hlf := hide h2
                have hff := hide h3
                have hlfn := congrArg List.length h2
                rw [List.length_append, List.length_singleton] at hlfn
                clear h1 h2 h3 hlki
                have hbd := hbq.size
                go_wp2_with (at_builtin; refine wpList_app1 rfl (.tmp 84) (.tmp 86) rfl IDE.enc idT x rfl rfl rfl (hown.later _) (by rfl) (by omega) (by unfold maxLen; omega) (Nat.le_trans hbd (show Below wr.heap.size wr _ from below_of).size) ?_; intro A' c' w6 ho hm hb hg hat; have bX6 := (hg.block gx (Array.getElem?_eq_some_iff.1 bX).1 fun e => hne e.symm).trans bX; have BX6 := boxed bX6; have lT6 : Later wT w6 := ⟨hbq.trans hb⟩; have l66 : Later w6 w6 := Later.refl)
                have hbn : Below w6.heap.size w6 (w6.alloc (.cells #[.int .i64 f.machine, .int .i64 f.serial] 24)) := (Below.refl _ _).alloc (Nat.le_refl _) _
                go_roundg (gk - 1)
                case measure => omega
                case rel =>
                  exact ⟨p', o ++ [x], f, _, A', c', by rw [List.length_append]; rfl, rfl, hide (by rw [hlo.out, hlf.out]; simp), hff, by omega, heap_alloc_new _ _, (fun h => absurd (World.ownsRow.lt ho _ (by rw [List.length_append] at h; exact h)).2 (Nat.lt_irrefl _)), by rw [List.length_append]; exact ho.below hbn, lT6.below.trans (hbn.mono lT6.below.size)⟩
              · have hxz : x = zeroI := by
                  have := ideq_iff (a := x) (b := zeroI)
                  rw [show ideq x.machine x.serial zeroI.machine zeroI.serial = true from hp] at this
                  exact of_decide_eq_true this.symm
                have hlf0 : lf = [] := by
                  rcases hfr.out with h | h
                  · exact h.2
                  · exact absurd hxz h.1
                have hlo2 := hide (show l = o.reverse by rw [hlo.out, hlf0]; rfl)
                have hRv := reverse_any OA OC o wT.heap.size wr hown (by omega) hbq.size
                go_wp2_with (go_at_call 54; refine hRv.mono ?_; rintro r w9 ⟨rfl, ho9, hb9, -⟩)
                go_wp2_with fail
                rw [Exit.noGoto_ret]
                go_ret
                have hlr := hide (show o.reverse.length = o.length by rw [List.length_reverse])
                refine ⟨o.reverse, OA, OC, hide (by rw [hsl.out, hlo2.out]; rfl), by rw [hlr.out]; rfl, ?_, hbw.trans ((hbq.trans hb9).mono hzw)⟩
                rw [hlr.out]
                exact ho9.mono hzw
end Go.Proofs.YtpkfenlfgdbkcaaGreatDoor

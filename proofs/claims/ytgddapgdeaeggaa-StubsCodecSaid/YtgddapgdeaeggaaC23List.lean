/-
  Contracts of the functions of this seat that each theorem names: what a call returns, and that it writes nothing that was there before. The conditions stand in each theorem.
-/
import Derived.Test.YtgddapgdeaeggaaC23Values
import Derived.Test.YtgddapgdeaeggaaC23Sort
import Derived.Test.YtgddapgdeaeggaaGrpA
namespace Go.Proofs.Ytgddapgdeaeggaa
open Go.RowKit
attribute [local go_sem] Oper.semAt_some
theorem stubT : ElemT Try.prog 26 37 12 80 := ElemT.mk' (z := .agg #[.int .i64 0, .int .u64 0, .int .i64 0, .int .i64 0, .int .i64 0, .int .i64 0, .int .i64 0, .bool false, .bool false, .bool false, .int .i64 0, .int .i64 0]) Try.underlying26 (by kernel_rfl) rfl
theorem keepsWalks_putObj {W : World} {l : Nat} {o o' : Obj} (ho : W.heap[l]? = some o) (hw : o.isWalk = false) : KeepsWalks W (W.putObj l o') :=
  ⟨by rw [putObj_eq, putAt_size]; exact Nat.le_refl _, fun k o2 hk h2 => by
    rw [putObj_eq, putAt_heap (fun e => by rw [e, ho] at hk; injection hk with hk; subst hk; rw [hw] at h2; cases h2)]; exact hk⟩
theorem keepsWalks_alloc (W : World) (o : Obj) : KeepsWalks W (W.alloc o) := ⟨by simp, fun k o' hk _ => (Below.heap_alloc W o k (blk_lt hk)).trans hk⟩
/-- A range over a function that hands out what it reads off a map: the loop variable boxed, the body going on to its end each time. -/
theorem wp_rangeWalks {P : Program} {α : Type} {g : Operand} {ps : Array Tmp} {assign body : Code} {Q : Exit → Act → World → Prop} {a : Act} {w : World} {gf : Nat} {lb : Array Value} (hg : a.eval g = .func (.func gf) #[] lb) (eg : ∀ args w, (callFunc gf args).run P w = .ok (.enter gf args) w)
    {encs : α → Array Value} {S Sp : List α → Prop} {N : Nat} {w0 : World} (hseq : SeqStopsK Fence.wide 8 P gf lb encs KeepsWalks S Sp N w0) (hb0 : Below w0.heap.size w0 w) (hps : ∀ x, (encs x).size = ps.size)
    (I : List α → World → Prop) (hI : OwnFrom w.heap.size I) (hIs : ∀ pre W, I pre W → w.heap.size ≤ W.heap.size) (h0 : I [] w) {arr : α → Array Value} {T : TypeId} {tm : α → Nat → Array Value}
    (hassign : ∀ (l : Nat) (x : α) (W : World) (Bx : Nat) (K : Act → World → Prop), W.heap.size = Bx → (∀ a', a' = { tmps := tm x Bx, defers := [] } → K a' (W.alloc (.cells (arr x) T))) →
      assign.wpIn (Fence.wide.inRound l) 7 P (Exit.then K (fun _ _ _ => False)) { tmps := (ps.zip (encs x)).foldl (fun t (p, v) => t.setIfInBounds p v) a.tmps, defers := [] } W)
    (hbody : ∀ (l : Nat) (pre : List α) (x : α) (Bx : Nat) (W : World), w.heap.size ≤ Bx → Bx < W.heap.size → W.heap[Bx]? = some (.cells (arr x) T (0, 0)) → I pre W → pre.length < N →
      body.wpIn (Fence.wide.inRound l) 7 P (fun e _ W' => e = .normal ∧ KeepsFrom w.heap.size W W' ∧ KeepsWalks W W' ∧ I (pre ++ [x]) W') { tmps := tm x Bx, defers := [] } W)
    (hdone : ∀ (D : Nat) (xs : List α) (W : World), w.heap.size ≤ D → S xs → I xs W → W.heap[D]? = some (.deferred (some [])) → Q .normal { a with defers := { target := .collected D, args := #[] } :: a.defers } W) :
    (Code.rangeFunc g ps assign body).wp P Q a w := by
  refine (wpIn_wide (n := 9)).1 (wpIn_rangeFunc_ownH (F := Fence.wide) rfl (by omega) hg trivial eg hseq (fun h k => h.trans k) (fun W l o o' hl ho hc hw => keepsWalks_putObj ho hw) hb0 hps I (fun _ _ _ => False) hI
    (fun c s W W' row h _ _ => h.elim) h0 (fun x a' W => ∃ Bx, w.heap.size ≤ Bx ∧ Bx < W.heap.size ∧ W.heap[Bx]? = some (.cells (arr x) T (0, 0)) ∧ a' = { tmps := tm x Bx, defers := [] }) ?_ ?_ ?_ hdone (fun _ _ _ _ _ _ h => h.elim))
  · rintro x a' s W W' row ⟨Bx, h1, h2, h3, h4⟩ hg' hr
    refine ⟨Bx, h1, Nat.lt_of_lt_of_le h2 hg'.size, ?_, h4⟩
    rw [hg'.block Bx h2 (fun e => ?_)]
    · exact h3
    · obtain ⟨_, o, ho, hc⟩ := hr Bx e.symm
      rw [h3] at ho; injection ho with ho; subst ho; cases hc
  · intro l pre x W K hi hK
    refine hassign l x W W.heap.size K rfl fun a' ha' => hK a' _ ((KeepsOthers.alloc _ _).from _) (keepsWalks_alloc _ _) (hI.alloc _ hi) ⟨W.heap.size, hIs _ _ hi, by simp, heap_alloc_new _ _, ha'⟩
  · rintro l pre x a' W hl _ hi ⟨Bx, h1, h2, h3, rfl⟩ hlen
    refine wpIn_mono (hbody l pre x Bx W h1 h2 h3 hi hlen) ?_
    rintro e a'' W' ⟨rfl, h⟩
    exact h
theorem wpListIn_app {α : Type} {f : α → List Value} {s : Nat} {e : TypeId} {base : Nat} {w : World} {v : Value} {l : List α} {F : Fence} {n : Nat} {P : Program} {t : TypeId} {bytes : Nat} {ops : Array Oper} {rest : List Oper} {o : Oper} {a : Act} {Q : Exit → Act → World → Prop} (hgd : o.guard = none) (sl x : Operand)
    (ho : o.op = .call { callee := .builtin .append, args := #[sl, x], argTypes := #[t, t] }) (he : Enc f s) (ht : ElemT P t e s bytes) (hown : Own f s e base w v l) (A : Option Addr) (c m : Nat) (l2 : List α) (hm : l2.length = m) (hsrc : SlAt f s w A l2)
    (hs : a.eval sl = v) (hx : a.eval x = .slice A m c)
    (hbytes : (l.length + m) * bytes ≤ 140737488355328) (h63 : l.length + m ≤ maxLen) (hbase : base ≤ w.heap.size)
    (h : ∀ A' c' w', Own f s e base w' (.slice A' (l.length + m) c') (l ++ l2) → w.grownBy w' v.ownBlock → wpListIn F n P ops Q rest (a.put o.dst (.slice A' (l.length + m) c')) w') : wpListIn F n P ops Q (o :: rest) a w := by
  refine wpListIn_plain hgd fun K hK => ?_
  subst hm
  obtain ⟨v', w', hrun, h2, h3, h4⟩ := run_app (P := P) (ty := o.type) he ht hown A c l2 hsrc hbytes h63 hbase
  obtain ⟨A', c', rfl, -, -, -⟩ := h2.slAt he
  rw [List.length_append] at h2 hrun
  unfold Oper.wpIn
  refine ⟨?_, ?_⟩
  · simp [Oper.about, ho, resolve, Target.leads, Sem.run_pure]
  · rw [Oper.semAt_plain F _ _ (by rw [ho]; intro c hc'; cases hc')]
    simp only [execOp, ho, resolve, invoke, builtin, Sem.run_bind, Sem.run_pure, Result.andThen_ok, List.map_toArray, List.map_cons, List.map_nil, hs, hx, hrun]
    exact hK _ _ (h A' c' w' h2 h3)
abbrev valuesF : Nat := 61
/-- What the collecting gives: a slice of its own, that holds the values in some order. -/
def ColPost (w : World) (xs : List StubE) (r : Ending) (w' : World) : Prop := ∃ ys A c, Hid (ys.Perm xs) ∧ r = .returned (.slice A ys.length c) ∧ Own StubE.cells 12 37 w.heap.size w' (.slice A ys.length c) ys ∧ Below w.heap.size w w'
set_option maxRecDepth 100000 in
set_option maxHeartbeats 4000000 in
theorem appendSeq_any (Bm g : Nat) (xs : List StubE) (w : World) (hBm : Bm < w.heap.size) (hm : w.cell? ⟨Bm, 0, none⟩ = some (.map (some g))) (hmap : MapL KeyE.vv StubE.vv keyE w g xs) (hl : xs.length ≤ 1000000) :
    Calls Try.prog 76 #[.slice none 0 0, .func (.func valuesF) #[] #[.pointer (some ⟨Bm, 0, none⟩)]] w (ColPost w xs) := by
  refine calls_marks Try.func76 rfl ?_
  simp only [Try.ntmps76, List.size_toArray, List.length_cons, List.length_nil, Nat.reduceAdd, Nat.reduceSub, Array.replicate_succ, Array.replicate_zero, List.push_toArray, List.append_toArray, List.nil_append, List.cons_append]
  go_wp2_with fail
  refine wp_name ?_
  intro w1 hw1
  have b0 : w1.heap[w.heap.size]? = some (.cells #[.slice none 0 0] 26 (0, 0)) := (by rw [← hw1]; simp only [heap_alloc_if, World.size_alloc]; repeat (first | rw [if_pos trivial] | rw [if_neg (by omega)] | rw [if_pos (by omega)]); try rfl)
  have hz1 : w1.heap.size = w.heap.size + 1 := by rw [← hw1]; simp
  have hb1 : Below w.heap.size w w1 := by rw [← hw1]; exact (by repeat (first | with_reducible exact Below.refl _ _ | (with_reducible refine Below.drew ?_) | (with_reducible refine below_drewN ?_ _) | (with_reducible refine Below.alloc ?_ ?_ _; rotate_left; (first | omega | (simp <;> omega))) | (with_reducible refine Below.setCell ?_ ?_ _; rotate_left; (first | omega | (simp <;> omega)))))
  clear hw1
  refine wp_rangeWalks (gf := valuesF) (lb := #[.pointer (some ⟨Bm, 0, none⟩)]) rfl (enters_of Try.func61 (by kernel_rfl) rfl) (values_stops 8 (by omega) Bm g xs w hBm hm hmap) hb1 (fun _ => rfl)
    (fun pre W => ∃ A c, W.heap[w.heap.size]? = some (.cells #[.slice A pre.length c] 26 (0, 0)) ∧ Own StubE.cells 12 37 w1.heap.size W (.slice A pre.length c) pre ∧ Below w.heap.size w W ∧ w1.heap.size ≤ W.heap.size)
    ?hI (fun _ _ ⟨_, _, h⟩ => h.2.2.2) ⟨none, 0, b0, Own.nil, hb1, Nat.le_refl _⟩ (arr := fun x => x.arr) (T := 37) (tm := ?tm) ?hassign ?hbody ?hdone
  case hI =>
    rintro s W W' row ⟨A, c, h0, ho, hb, hz⟩ hg' hr
    have hne : ∀ (k : Nat) (cs : Array Value) (t : TypeId) (fr : Nat × Nat), W.heap[k]? = some (.cells cs t fr) → row ≠ some k := fun k cs t fr hk e => by
      obtain ⟨_, o, ho, hc⟩ := hr k e
      rw [hk] at ho; injection ho with ho; subst ho; cases hc
    refine ⟨A, c, (hg'.block _ (blk_lt h0) (fun e => hne _ _ _ _ h0 e.symm)).trans h0, ho.kept hg' ?_, hb.trans ((Below.refl _ _).grown hg' (by omega) (fun k hk => by have := (hr k hk).1; omega)), Nat.le_trans hz hg'.size⟩
    rcases ho.2 with ⟨hv, -⟩ | ⟨gg, cap, cur, hv, -, hgg, -⟩
    · rw [hv]; exact .inl rfl
    · rw [hv]; exact .inr (fun e => hne gg _ _ _ hgg (e.symm ▸ rfl))
  case hassign =>
    intro l x W Bx K hB hK
    gi_wp2
    rfl
  case hbody =>
    rintro l pre x Bx W h1 h2 h3 ⟨A, c, h0, ho, hb, hz⟩ hlen
    have X : Boxed W Bx x.arr 37 := boxed h3
    have V := boxed h0
    have hba : Below W.heap.size W (W.alloc (.cells x.arr 37)) := (Below.refl _ _).alloc (Nat.le_refl _) _
    have hoa := ho.below hba
    have Hbox : ∀ w', (W.alloc (.cells x.arr 37)).grownBy w' (Value.slice A pre.length c).ownBlock → w'.heap[w.heap.size]? = some (.cells #[.slice A pre.length c] 26 (0, 0)) := fun w' hg' => by
      have hza : w.heap.size < (W.alloc (.cells x.arr 37)).heap.size := by simp; omega
      rw [hg'.block _ hza (fun e => by have := (World.ownsRow.lt hoa _ e.symm).1; omega), hba.block _ (by omega)]
      exact h0
    gi_wp2_with (first
      | (gi_at_builtin; refine wpListIn_app rfl (.tmp 8) (.tmp 10) rfl StubE.enc stubT hoa (some ⟨W.heap.size, 0, none⟩) 1 1 [x] rfl (blk_slAt StubE.enc (fr := (0, 0)) (heap_alloc_new W (.cells x.arr 37)) [x] (by simp [StubE.cells])) rfl rfl (by omega) (by simp only [maxLen]; omega) (by simp; omega) ?_; intro A' c' w' ho' hg'; have V' := boxed (Hbox w' hg'))
      | gi_in)
    have hko : KeepsOthers W w' := (KeepsOthers.alloc _ _).trans (KeepsOthers.of_grownBy hg' fun j o hj hjo => by
      rcases hoa.2 with ⟨hv, -⟩ | ⟨gg, cap, cur, hv, -, hgg, -⟩
      · rw [hv] at hj; cases hj
      · rw [hv] at hj; injection hj with hj; subst hj
        rw [hgg] at hjo; injection hjo with hjo; subst hjo; rfl)
    have hbw : Below w.heap.size w w' := hb.trans ((hba.mono (by omega)).trans (hoa.belowGrown (Below.refl _ _) hg' (by omega) (by simp; omega)))
    have hzw := hg'.size
    refine ⟨?_, ?_, A', c', ?_, ?_, ?_, ?_⟩
    · exact (hko.trans (KeepsOthers.setCell _ _ _)).from _
    · exact (hko.trans (KeepsOthers.setCell _ _ _)).walks
    · exact (blk_set (V' w').1 0 _).trans (by simp)
    · rw [← hz1]; exact ho'.far (p := ⟨w.heap.size, 0, none⟩) (fun e => by have := (World.ownsRow.lt ho' _ e).1; simp only at this; omega) _
    · exact hbw.setCell (by simp) _
    · rw [World.size_alloc] at hzw; first | omega | (simp [World.setCell]; omega)
  case hdone =>
    rintro D ys W hD hp ⟨A, c, h0, ho, hb, hz⟩ hK
    have V := boxed h0
    have HD := there_of hK
    have Hp := hide hp
    have hoD : ∀ o, Own StubE.cells 12 37 w1.heap.size (W.putObj D o) (.slice A ys.length c) ys := fun o => ho.kept (row := some D) (by rw [putObj_eq]; exact ⟨rfl, rfl, rfl, by simp [putAt_size], fun k _ hk => putAt_heap (fun e => hk (by rw [e]))⟩) (by
      rcases ho.2 with ⟨hv, -⟩ | ⟨gg, cap, cur, hv, -, hgg, -⟩
      · rw [hv]; exact .inl rfl
      · rw [hv]; refine .inr (fun e => ?_)
        have e' : gg = D := by simpa [Value.ownBlock] using e
        subst e'
        have := hgg.symm.trans hK
        cases this)
    clear hp hK
    go_wp2_with fail
    exact ret_marked rfl (HD _) (results_tmp rfl _ _ _) ⟨ys, A, c, Hp, rfl, (hoD _).mono (by omega), putObj_below hb (by omega)⟩
end Go.Proofs.Ytgddapgdeaeggaa

/-
  Contracts of the functions of this seat that each theorem names: what a call returns, and that it writes nothing that was there before. The conditions stand in each theorem.
-/
import Derived.Test.YtnfpbkimdhhmfaaGTgt
import Derived.Test.YtnfpbkimdhhmfaaGSetI
namespace Go.Proofs.Ytnfpbkimdhhmfaa
open Go.RowKit
attribute [local go_sem] Oper.semAt_some
theorem wpListIn_app {α : Type} {f : α → List Value} {s : Nat} {e : TypeId} {base : Nat} {w : World} {v : Value} {l : List α} {F : Fence} {n : Nat} {P : Program} {t : TypeId} {bytes : Nat} {ops : Array Oper} {rest : List Oper} {o : Oper} {a : Act} {Q : Exit → Act → World → Prop} (hgd : o.guard = none) (sl x : Operand)
    (ho : o.op = .call { callee := .builtin .append, args := #[sl, x], argTypes := #[t, t] }) (he : Enc f s) (ht : ElemT P t e s bytes) (hown : Own f s e base w v l) (A : Option Addr) (c m : Nat) (l2 : List α) (hm : l2.length = m) (hsrc : SlAt f s w A l2)
    (hs : a.eval sl = v) (hx : a.eval x = .slice A m c)
    (hbytes : (l.length + m) * bytes ≤ 140737488355328) (h63 : l.length + m ≤ maxLen) (hbase : base ≤ w.heap.size)
    (h : ∀ A' c' w', Own f s e base w' (.slice A' (l.length + m) c') (l ++ l2) → w.grownBy w' v.ownBlock → wpListIn F n P ops Q rest (a.put o.dst (.slice A' (l.length + m) c')) w') : wpListIn F n P ops Q (o :: rest) a w := by
  refine wpListIn_plain hgd fun K hK => ?_
  subst hm
  obtain ⟨v', w', hrun, h2, h3, h4⟩ := run_app (P := P) (ty := o.type) he ht hown A c l2 hsrc hbytes h63 hbase
  obtain ⟨A', c', rfl, -, -, -⟩ := h2.slAt he
  rw [List.length_append] at h2 hrun
  unfold Oper.wpIn
  refine ⟨?_, ?_⟩
  · simp [Oper.about, ho, resolve, Target.leads, Sem.run_pure]
  · rw [Oper.semAt_plain F _ _ (by rw [ho]; intro c hc'; cases hc')]
    simp only [execOp, ho, resolve, invoke, builtin, Sem.run_bind, Sem.run_pure, Result.andThen_ok, List.map_toArray, List.map_cons, List.map_nil, hs, hx, hrun]
    exact hK _ _ (h A' c' w' h2 h3)
/-- A range over a function whose loop variable is boxed and whose body goes on to its end each time: in plain words. -/
theorem wp_rangeBoxedT {P : Program} {α : Type} {g : Operand} {ps : Array Tmp} {assign body : Code} {Q : Exit → Act → World → Prop} {a : Act} {w : World} {gf : Nat} {lb : Array Value} (hg : a.eval g = .func (.func gf) #[] lb) (eg : ∀ args w, (callFunc gf args).run P w = .ok (.enter gf args) w)
    {encs : α → Array Value} {B lo : Nat} {U : TypeId} {S Sp : List α → Prop} {N : Nat} {w0 : World} (hseq : SeqStopsK Fence.wide 8 P gf lb encs (KpT B lo U) S Sp N w0) (hB : B ≤ w.heap.size) (hb0 : Below w0.heap.size w0 w) (hps : ∀ x, (encs x).size = ps.size)
    (I : List α → World → Prop) (hI : OwnFrom w.heap.size I) (hIs : ∀ pre W, I pre W → w.heap.size ≤ W.heap.size) (h0 : I [] w) {arr : α → Array Value} {T : TypeId} {tm : α → Nat → Array Value}
    (hassign : ∀ (l : Nat) (x : α) (W : World) (Bx : Nat) (K : Act → World → Prop), W.heap.size = Bx → (∀ a', a' = { tmps := tm x Bx, defers := [] } → K a' (W.alloc (.cells (arr x) T))) →
      assign.wpIn (Fence.wide.inRound l) 7 P (Exit.then K (fun _ _ _ => False)) { tmps := (ps.zip (encs x)).foldl (fun t (p, v) => t.setIfInBounds p v) a.tmps, defers := [] } W)
    (hbody : ∀ (l : Nat) (pre : List α) (x : α) (Bx : Nat) (W : World), w.heap.size ≤ Bx → Bx < W.heap.size → W.heap[Bx]? = some (.cells (arr x) T (0, 0)) → I pre W → pre.length < N →
      body.wpIn (Fence.wide.inRound l) 7 P (fun e _ W' => e = .normal ∧ KeepsFrom w.heap.size W W' ∧ KpT B lo U W W' ∧ I (pre ++ [x]) W') { tmps := tm x Bx, defers := [] } W)
    (hdone : ∀ (D : Nat) (xs : List α) (W : World), w.heap.size ≤ D → S xs → I xs W → W.heap[D]? = some (.deferred (some [])) → Q .normal { a with defers := { target := .collected D, args := #[] } :: a.defers } W) :
    (Code.rangeFunc g ps assign body).wp P Q a w := by
  refine (wpIn_wide (n := 9)).1 (wpIn_rangeFunc_ownH (F := Fence.wide) rfl (by omega) hg trivial eg hseq (fun h k => h.trans k) (fun W l o o' hl ho hc _ => KpT.putObj (by omega) ho hc) hb0 hps I (fun _ _ _ => False) hI
    (fun c s W W' row h _ _ => h.elim) h0 (fun x a' W => ∃ Bx, w.heap.size ≤ Bx ∧ Bx < W.heap.size ∧ W.heap[Bx]? = some (.cells (arr x) T (0, 0)) ∧ a' = { tmps := tm x Bx, defers := [] }) ?_ ?_ ?_ hdone (fun _ _ _ _ _ _ h => h.elim))
  · rintro x a' s W W' row ⟨Bx, h1, h2, h3, h4⟩ hg' hr
    refine ⟨Bx, h1, Nat.lt_of_lt_of_le h2 hg'.size, ?_, h4⟩
    rw [hg'.block Bx h2 (fun e => ?_)]
    · exact h3
    · obtain ⟨_, o, ho, hc⟩ := hr Bx e.symm
      rw [h3] at ho; injection ho with ho; subst ho; cases hc
  · intro l pre x W K hi hK
    refine hassign l x W W.heap.size K rfl fun a' ha' => hK a' _ ((KeepsOthers.alloc _ _).from _) ⟨?_, fun k cs ty fr _ ho _ => ?_⟩ (hI.alloc _ hi) ⟨W.heap.size, ?_, by simp, heap_alloc_new _ _, ha'⟩
    · exact (Below.refl B W).alloc (Nat.le_trans hB (hIs _ _ hi)) _
    · rw [heap_alloc_if, if_neg (fun e => ?_)]
      · exact ho
      · rw [e] at ho; simp at ho
    · exact hIs _ _ hi
  · rintro l pre x a' W hl _ hi ⟨Bx, h1, h2, h3, rfl⟩ hlen
    refine wpIn_mono (hbody l pre x Bx W h1 h2 h3 hi hlen) ?_
    rintro e a'' W' ⟨rfl, h⟩
    exact h

theorem below_src {W u u' : World} {r : Option Nat} (_ : u.grownBy u' r) [Later W u] : Below W.heap.size W u := below_of
theorem keepsFrom_below {B : Nat} {W W' : World} (h : Below W.heap.size W W') : KeepsFrom B W W' := ⟨h.size, fun k _ _ hk _ => (h.block k (blk_lt hk)).trans hk⟩
theorem kpT_below {B lo : Nat} {T : TypeId} {W W' : World} (h : Below W.heap.size W W') (hB : B ≤ W.heap.size) : KpT B lo T W W' := ⟨h.mono hB, fun k _ _ _ _ hk _ => (h.block k (blk_lt hk)).trans hk⟩
theorem kpT_grown {B lo : Nat} {T : TypeId} {W W' : World} {α : Type} {f : α → List Value} {s base : Nat} {v : Value} {l : List α} (ho : Own f s T base W v l) (hg : W.grownBy W' v.ownBlock) (hB : B ≤ base) (hb : B ≤ W.heap.size) : KpT B lo T W W' :=
  ⟨ho.belowGrown (Below.refl _ _) hg hB hb, fun k cs ty fr _ hk hne => (hg.block k (blk_lt hk) (fun e => by
    obtain ⟨cs', hc⟩ := own_type ho e.symm
    rw [hk] at hc; injection hc with hc; injection hc with _ hc _; exact hne hc)).trans hk⟩
theorem kpT_set {B lo g i : Nat} {T : TypeId} {W : World} {v : Value} (hB : B ≤ g) (hlo : g < lo) : KpT B lo T W (W.setCell ⟨g, i, none⟩ v) :=
  ⟨(Below.refl _ _).setCell hB _, fun k cs ty fr hk h _ => (blk_far (k := k) (p := ⟨g, i, none⟩) (show k ≠ g by omega) v).trans h⟩
section
attribute [local go_sem] Instr.makeFunc
/-- The maker of the iterator: its arguments are boxed. -/
theorem targets_mk (A : Option Addr) (n c : Nat) (SA : Option Addr) (m sc : Nat) (WA : Option Addr) (k wc : Nat) (w : World) : Calls Try.prog 34 #[.agg #[.slice A n c], .slice SA m sc, .slice WA k wc] w fun e w' => e = .returned (.func (.func 48) #[] #[.pointer (some ⟨w.heap.size + 1, 0, none⟩), .pointer (some ⟨w.heap.size, 0, none⟩), .pointer (some ⟨w.heap.size + 1 + 1, 0, none⟩)]) ∧
    w' = ((w.alloc (.cells #[.slice A n c] 24)).alloc (.cells #[.slice SA m sc] 25)).alloc (.cells #[.slice WA k wc] 25) := by
  go_enter Try.func34, Try.ntmps34
  go_wp2
  go_ret
  exact ⟨rfl, rfl⟩
end
def wk (L : List NodeC) (strong : List IDE) (x : IDE) : Bool := isStubN L x && !decide (x ∈ strong)
def weakL (L : List NodeC) (strong weak : List IDE) : List IDE := (tgt L strong weak).filter (wk L strong)
theorem tgt_stops (n : Nat) (hn : 1 ≤ n) (lo gB sB wB : Nat) (A : Option Addr) (c : Nat) (l : List NodeE) (SA : Option Addr) (sc : Nat) (strong : List IDE) (WA : Option Addr) (wc : Nat) (weak : List IDE) (W0 w5 : World)
    (H : NodesAt W0 A l) (hS : SlAt IDE.cells 2 W0 SA strong) (hWk : SlAt IDE.cells 2 W0 WA weak) (hl : l.length ≤ 10000) (hf : ∀ n ∈ l, n.fields.length ≤ 10000) (hsl : strong.length ≤ 10000) (hwl : weak.length ≤ 10000)
    (h1 : lo ≤ gB) (h2 : lo ≤ sB) (h3 : lo ≤ wB) (hlo : lo ≤ w5.heap.size) (hb : Below W0.heap.size W0 w5)
    (b1 : w5.heap[gB]? = some (.cells #[.slice A l.length c] 24 (0, 0))) (b2 : w5.heap[sB]? = some (.cells #[.slice SA strong.length sc] 25 (0, 0))) (b3 : w5.heap[wB]? = some (.cells #[.slice WA weak.length wc] 25 (0, 0))) :
    SeqStopsK Fence.wide n Try.prog 48 #[.pointer (some ⟨sB, 0, none⟩), .pointer (some ⟨gB, 0, none⟩), .pointer (some ⟨wB, 0, none⟩)] (fun x : IDE => #[x.v]) (KpT W0.heap.size lo 37) (fun ys => ys = tgt (conL l) strong weak) (fun _ => True) (strong.length * 10000 + weak.length) w5 := fun lp J Jx W hW hJ _ hY h0 =>
  tgt_in n hn lp W0.heap.size lo gB sB wB A c l SA sc strong WA wc weak W0 rfl H hS hWk hl hf hsl hwl W h1 h2 h3 (Nat.le_trans hlo hW.size) J Jx hY hJ (hb.trans (hW.mono hb.size)) (blk_below b1 hW) (blk_below b2 hW) (blk_below b3 hW) h0
set_option maxRecDepth 100000 in
set_option maxHeartbeats 8000000 in
theorem weakStubs_any (A : Option Addr) (c : Nat) (l : List NodeE) (SA : Option Addr) (sc : Nat) (strong : List IDE) (WA : Option Addr) (wc : Nat) (weak : List IDE) (w : World) (H : NodesAt w A l) (hS : SlAt IDE.cells 2 w SA strong) (hWk : SlAt IDE.cells 2 w WA weak) (hl : l.length ≤ 10000) (hf : ∀ n ∈ l, n.fields.length ≤ 10000) (hsl : strong.length ≤ 10000) (hwl : weak.length ≤ 10000) :
    Calls Try.prog 17 #[.agg #[.slice A l.length c], .slice SA strong.length sc, .slice WA weak.length wc] w (SetIPost (weakL (conL l) strong weak) w) := by
  have HL := H.later
  have HS : ∀ u [Later w u], SlAt IDE.cells 2 u SA strong := fun u i => hS.below i.below
  refine calls_marks Try.func17 rfl ?_
  simp only [Try.ntmps17, List.size_toArray, List.length_cons, List.length_nil, Nat.reduceAdd, Nat.reduceSub, Array.replicate_succ, Array.replicate_zero, List.push_toArray, List.append_toArray, List.nil_append, List.cons_append]
  go_upto_region 1 with fail
  refine wp_name ?_
  intro w0 hw0
  obtain ⟨B0, l0⟩ := box1 hw0
  have hz0 : w.heap.size < w0.heap.size := by rw [← hw0]; simp
  clear hw0
  go_wp2_with (first | (go_at_call 25; refine (set_any SA sc strong _ (HS _) (by omega)).mono ?_; rintro r w1 ⟨g1, rfl, hg1, hM1, hb1⟩; have l1 := later hb1) | (go_at_call 34; refine (targets_mk _ _ _ _ _ _ _ _ _ _).mono ?_; rintro e w' ⟨rfl, rfl⟩))
  refine wp_name ?_
  intro w5 hw5
  have b7 : w5.heap[w1.heap.size]? = some (.cells #[.map (some g1)] 79 (0, 0)) := (by rw [← hw5]; simp only [heap_alloc_if, World.size_alloc]; repeat (first | rw [if_pos trivial] | rw [if_neg (by omega)] | rw [if_pos (by omega)]); try rfl)
  have b8 : w5.heap[w1.heap.size + 1]? = some (.cells #[.slice none 0 0] 25 (0, 0)) := (by rw [← hw5]; simp only [heap_alloc_if, World.size_alloc]; repeat (first | rw [if_pos trivial] | rw [if_neg (by omega)] | rw [if_pos (by omega)]); try rfl)
  have c1 : w5.heap[w1.heap.size + 1 + 1]? = some (.cells #[.slice A l.length c] 24 (0, 0)) := (by rw [← hw5]; simp only [heap_alloc_if, World.size_alloc]; repeat (first | rw [if_pos trivial] | rw [if_neg (by omega)] | rw [if_pos (by omega)]); try rfl)
  have c2 : w5.heap[w1.heap.size + 1 + 1 + 1]? = some (.cells #[.slice SA strong.length sc] 25 (0, 0)) := (by rw [← hw5]; simp only [heap_alloc_if, World.size_alloc]; repeat (first | rw [if_pos trivial] | rw [if_neg (by omega)] | rw [if_pos (by omega)]); try rfl)
  have c3 : w5.heap[w1.heap.size + 1 + 1 + 1 + 1]? = some (.cells #[.slice WA weak.length wc] 25 (0, 0)) := (by rw [← hw5]; simp only [heap_alloc_if, World.size_alloc]; repeat (first | rw [if_pos trivial] | rw [if_neg (by omega)] | rw [if_pos (by omega)]); try rfl)
  have hz5 : w5.heap.size = w1.heap.size + 1 + 1 + 1 + 1 + 1 := by rw [← hw5]; simp
  have hb15 : Below w1.heap.size w1 w5 := by rw [← hw5]; exact (by repeat (first | with_reducible exact Below.refl _ _ | (with_reducible refine Below.drew ?_) | (with_reducible refine below_drewN ?_ _) | (with_reducible refine Below.alloc ?_ ?_ _; rotate_left; (first | omega | (simp <;> omega))) | (with_reducible refine Below.setCell ?_ ?_ _; rotate_left; (first | omega | (simp <;> omega)))))
  clear hw5
  have hz1 : w.heap.size < w1.heap.size := Nat.lt_of_lt_of_le hz0 hb1.size
  have hb05 : Below w.heap.size w w5 := (show Below w.heap.size w w1 from below_of).trans (hb15.mono (by omega))
  have hM5 := hM1.below hb15
  have b0 : w5.heap[w.heap.size]? = some (.cells #[.slice A l.length c] 24 (0, 0)) := blk_below (B0 w1).1 hb15
  have hg1l : g1 < w1.heap.size := hM1.lt
  have hZ := hide hz5
  have hMk : ∀ x, memM strong x = memM strong x := fun _ => rfl
  clear hM1 B0 l0 l1 hb1 hMk
  refine wp_rangeBoxedT (gf := 48) (lb := #[.pointer (some ⟨w1.heap.size + 1 + 1 + 1, 0, none⟩), .pointer (some ⟨w1.heap.size + 1 + 1, 0, none⟩), .pointer (some ⟨w1.heap.size + 1 + 1 + 1 + 1, 0, none⟩)]) rfl (enters_of Try.func48 (by kernel_rfl) rfl)
    (tgt_stops 8 (by omega) (w1.heap.size + 1 + 1) (w1.heap.size + 1 + 1) (w1.heap.size + 1 + 1 + 1) (w1.heap.size + 1 + 1 + 1 + 1) A c l SA sc strong WA wc weak w w5 H hS hWk hl hf hsl hwl (by omega) (by omega) (by omega) (by omega) hb05 c1 c2 c3) (by omega) (Below.refl _ _) (fun _ => rfl)
    (fun pre W => ∃ (O : List IDE) (OA : Option Addr) (Oc : Nat), Hid (O = pre.filter (wk (conL l) strong)) ∧ W.heap[w1.heap.size + 1]? = some (.cells #[.slice OA O.length Oc] 25 (0, 0)) ∧ Own IDE.cells 2 37 w5.heap.size W (.slice OA O.length Oc) O ∧ MapFn IDE.vv Value.bool W g1 (memM strong) ∧
      W.heap[w1.heap.size]? = some (.cells #[.map (some g1)] 79 (0, 0)) ∧ W.heap[w.heap.size]? = some (.cells #[.slice A l.length c] 24 (0, 0)) ∧ Below w.heap.size w W ∧ w5.heap.size ≤ W.heap.size)
    ?hI (fun _ _ ⟨_, _, _, h⟩ => h.2.2.2.2.2.2.2) ⟨[], none, 0, hide rfl, b8, Own.nil, hM5, b7, b0, hb05, Nat.le_refl _⟩ (arr := fun x => x.arr) (T := 37) (tm := ?tm) ?hassign ?hbody ?hdone
  case hI =>
    rintro s W W' row ⟨O, OA, Oc, hO, h8, ho, hM, h7, h0, hb, hz⟩ hg' hr
    have hne : ∀ (k : Nat) (cs : Array Value) (t : TypeId) (fr : Nat × Nat), W.heap[k]? = some (.cells cs t fr) → row ≠ some k := fun k cs t fr hk e => by
      obtain ⟨_, o, ho, hc⟩ := hr k e
      rw [hk] at ho; injection ho with ho; subst ho; cases hc
    have hkb : ∀ (k : Nat) (cs : Array Value) (t : TypeId) (fr : Nat × Nat), W.heap[k]? = some (.cells cs t fr) → W'.heap[k]? = some (.cells cs t fr) := fun k cs t fr hk => (hg'.block _ (blk_lt hk) (fun e => hne _ _ _ _ hk e.symm)).trans hk
    refine ⟨O, OA, Oc, hO, hkb _ _ _ _ h8, ho.kept hg' ?_, hM.of_heap (hg'.block _ hM.lt (fun e => by have := (hr _ e.symm).1; omega)), hkb _ _ _ _ h7, hkb _ _ _ _ h0, hb.trans ((Below.refl _ _).grown hg' (by omega) (fun k hk => by have := (hr k hk).1; omega)), Nat.le_trans hz hg'.size⟩
    rcases ho.2 with ⟨hv, -⟩ | ⟨gg, cap, cur, hv, -, hgg, -⟩
    · rw [hv]; exact .inl rfl
    · rw [hv]; exact .inr (fun e => hne gg _ _ _ hgg (e.symm ▸ rfl))
  case hassign =>
    intro lp x W Bx K hB hK
    gi_wp2
    rfl
  case hbody =>
    rintro lp pre x Bx W h1 h2 h3 ⟨O, OA, Oc, hO, h8, ho, hM, h7, h0, hb, hz⟩ hlen
    have X : Boxed W Bx x.arr 37 := boxed h3
    have V8 := boxed h8
    have V7 := boxed h7
    have V0 := boxed h0
    have lW := later hb
    have hWW : Later W W := Later.refl
    have hsx : ∀ (u : World) [Later W u], (Instr.lookup 79 (.map (some g1)) (.agg #[.int .i64 x.machine, .int .i64 x.serial]) false).run Try.prog u = .ok (.bool (decide (x ∈ strong))) u := fun u i => by
      have := run_look keyI Try.underlying79 zeroBool (hM.later u) x
      rw [memM_look] at this
      exact this
    have hfF : Fence.wide.fn 26 := trivial
    have hfN : ∀ f : FuncId, none = some f → Fence.wide.fn f := fun f hf => by cases hf
    have HF : ∀ (m : Nat) (u : World) [Later w u], CallsIn (Fence.wide.inRound lp) m Try.prog 26 #[.agg #[.slice A l.length c], x.v] u (FindPost (conL l) x u) := fun m u i => (callsIn_wide.2 (find_any A c l x u (HL u) (by omega) (fun n hn => Nat.le_trans (hf n hn) (by omega)))).inRound lp
    unfold FindPost at HF
    have hOl : O.length ≤ pre.length := by rw [hO.out]; exact List.length_filter_le _ _
    obtain ⟨G, hG⟩ : ∃ G : World → Prop, ∀ W', G W' ↔ (KeepsFrom w5.heap.size W W' ∧ KpT w.heap.size (w1.heap.size + 1 + 1) 37 W W' ∧ ∃ (O : List IDE) (OA : Option Addr) (Oc : Nat), Hid (O = (pre ++ [x]).filter (wk (conL l) strong)) ∧ W'.heap[w1.heap.size + 1]? = some (.cells #[.slice OA O.length Oc] 25 (0, 0)) ∧ Own IDE.cells 2 37 w5.heap.size W' (.slice OA O.length Oc) O ∧ MapFn IDE.vv Value.bool W' g1 (memM strong) ∧
        W'.heap[w1.heap.size]? = some (.cells #[.map (some g1)] 79 (0, 0)) ∧ W'.heap[w.heap.size]? = some (.cells #[.slice A l.length c] 24 (0, 0)) ∧ Below w.heap.size w W' ∧ w5.heap.size ≤ W'.heap.size) := ⟨_, fun _ => Iff.rfl⟩
    refine wpIn_mono (Q := fun e _ W' => e = Exit.normal ∧ G W') ?_ (fun e a W' h => ⟨h.1, (hG W').1 h.2⟩)
    have hskip : ∀ W' : World, wk (conL l) strong x = false → Below W.heap.size W W' → G W' := fun W' hwk hbW => (hG W').2
      ⟨keepsFrom_below hbW, kpT_below hbW (by omega), O, OA, Oc, hide (by rw [List.filter_append, hO.out]; simp [hwk]), blk_below h8 hbW, ho.below hbW, hM.below hbW, blk_below h7 hbW, blk_below h0 hbW, hb.trans (hbW.mono (by omega)), Nat.le_trans hz hbW.size⟩
    have HG := hide hG
    clear hG
    have hz5' := hZ.out
    have hW5 : w1.heap.size + 1 < W.heap.size := by omega
    clear hz5' hz5
    cases hfx : firstN (conL l) x with
    | none =>
      have hwk := hide (show wk (conL l) strong x = false by unfold wk isStubN; rw [hfx]; rfl)
      simp only [hfx, Option.getD_none, Option.isSome_none] at HF
      clear hfx
      gi_wp2_with (first | (gi_at_call 26; refine (HF _ _).mono ?_; rintro r w6 ⟨⟨m1, m2, mk, mc, mA, mp, mf⟩, rfl, hm, hF, hc1, hc2, hb6⟩; have hmk : mk = _ := congrArg NodeC.kind hm.out; subst hmk; have l6 := later hb6) | fail | gi_in)
      exact hskip _ hwk.out below_of
    | some nn =>
      simp only [hfx, Option.getD_some, Option.isSome_some] at HF
      by_cases hk3 : nn.kind = 3
      · by_cases hin : x ∈ strong
        · have hwk := hide (show wk (conL l) strong x = false by unfold wk; simp [hin])
          simp only [hin, decide_true] at hsx
          clear hfx
          gi_wp2_with (first | (gi_at_call 26; refine (HF _ _).mono ?_; rintro r w6 ⟨⟨m1, m2, mk, mc, mA, mp, mf⟩, rfl, hm, hF, hc1, hc2, hb6⟩; have hmk : mk = _ := congrArg NodeC.kind hm.out; subst hmk; have l6 := later hb6) | fail | gi_in)
          exact hskip _ hwk.out below_of
        · have hwk := hide (show wk (conL l) strong x = true by unfold wk isStubN; rw [hfx]; simp [hk3, hin])
          simp only [hin, decide_false] at hsx
          clear hfx
          have hlen2 : O.length ≤ 200000000 := by
            have := hsl; have := hwl; omega
          gi_wp2_with (first | (gi_at_call 26; refine (HF _ _).mono ?_; rintro r w6 ⟨⟨m1, m2, mk, mc, mA, mp, mf⟩, rfl, hm, hF, hc1, hc2, hb6⟩; have hmk : mk = _ := congrArg NodeC.kind hm.out; subst hmk; have l6 := later hb6) | (gi_at_builtin; (refine wpListIn_app rfl (.tmp 37) (.tmp 39) rfl IDE.enc idT (ho.later _) (some ⟨w6.heap.size + 1, 0, none⟩) 1 1 [x] rfl (blk_slAt IDE.enc (fr := (0, 0)) (e := 37) (cs := x.arr) (by rw [heap_alloc_if, if_pos (World.size_alloc w6 _).symm]) [x] (by simp [IDE.cells])) rfl rfl (by omega) (by unfold maxLen; omega) (Nat.le_trans hz (show Below W.heap.size W _ from below_of).size) ?_; intro A' c' w' ho' hg'; have hWa := below_src (W := W) hg'; have hoa := ho.below hWa; have hneB : ∀ k, k < w5.heap.size → (Value.slice OA O.length Oc).ownBlock ≠ some k := fun k hk e => (by have := (World.ownsRow.lt ho _ e).1; omega); have hkk : ∀ k, k < w5.heap.size → w'.heap[k]? = W.heap[k]? := fun k hk => (hg'.block k (Nat.lt_of_lt_of_le (Nat.lt_of_lt_of_le hk hz) hWa.size) (fun e => hneB k hk e.symm)).trans (hWa.block k (Nat.lt_of_lt_of_le hk hz)); have hZ' := hide (show w1.heap.size + 1 < w5.heap.size by have := hZ.out; omega); have V8' := boxed ((hkk _ hZ'.out).trans h8))) | gi_in)
          have hZo := hZ.out
          have hzw := hg'.size
          have hOx : (O ++ [x]).length = O.length + 1 := by simp
          have hfar : ∀ k, k ≠ w1.heap.size + 1 → k < w5.heap.size → (w'.setCell ⟨w1.heap.size + 1, 0, none⟩ (.slice A' (O.length + 1) c')).heap[k]? = W.heap[k]? := fun k hk hk5 => (blk_far (k := k) (p := ⟨w1.heap.size + 1, 0, none⟩) hk _).trans (hkk k hk5)
          have hKo : KeepsOthers W w' := (show KeepsOthers W _ from ⟨hWa.size, fun k _ hk _ => (hWa.block k (blk_lt hk)).trans hk⟩).trans (KeepsOthers.of_grownBy hg' fun j o hj hjo => by
            obtain ⟨cs, hcs⟩ := own_type hoa hj
            rw [hcs] at hjo; injection hjo with hjo; subst hjo; rfl)
          have hT1 : KpT w.heap.size (w1.heap.size + 1 + 1) 37 W w' := (kpT_below hWa (by omega)).trans (kpT_grown hoa hg' (by omega) (by have := hWa.size; omega))
          refine (HG.out _).2 ⟨(hKo.trans (KeepsOthers.setCell _ _ _)).from _, hT1.trans (kpT_set (by omega) (by omega)), O ++ [x], A', c', hide (by rw [List.filter_append, hO.out]; simp [hwk.out]), ?_, ?_, ?_, ?_, ?_, ?_, ?_⟩
          · rw [hOx]; exact (blk_set (V8' w').1 0 _).trans (by simp)
          · rw [hOx]; exact ho'.far (p := ⟨w1.heap.size + 1, 0, none⟩) (fun e => by have := (World.ownsRow.lt ho' _ e).1; simp only at this; omega) _
          · exact hM.of_heap (hfar _ (by omega) (by omega))
          · rw [hfar _ (by omega) (by omega)]; exact h7
          · rw [hfar _ (by omega) (by omega)]; exact h0
          · exact hb.trans (hT1.1.setCell (by simp; omega) _)
          · have := hWa.size; simp only [World.size_setCell]; omega
      · have hwk := hide (show wk (conL l) strong x = false by unfold wk isStubN; rw [hfx]; simp [hk3])
        have hk3b : (nn.kind == 3) = false := by simp [hk3]
        clear hfx
        gi_wp2_with (first | (gi_at_call 26; refine (HF _ _).mono ?_; rintro r w6 ⟨⟨m1, m2, mk, mc, mA, mp, mf⟩, rfl, hm, hF, hc1, hc2, hb6⟩; have hmk : mk = _ := congrArg NodeC.kind hm.out; subst hmk; have l6 := later hb6) | fail | gi_in)
        exact hskip _ hwk.out below_of
  case hdone =>
    rintro D ys W hD rfl ⟨O, OA, Oc, hO, h8, ho, hM, h7, h0, hb, hz⟩ hK
    have V8 := boxed h8
    have HD := there_of hK
    have lW := later hb
    have hWW : Later W W := Later.refl
    have hZo := hZ.out
    have hO' := hide (show O = weakL (conL l) strong weak from hO.out)
    have hOl : O.length ≤ 1000000000 := by
      rw [hO.out]
      refine Nat.le_trans (List.length_filter_le _ _) ?_
      unfold tgt
      have hfc : ∀ n ∈ conL l, n.fields.length ≤ 10000 := fun n hn => by
        obtain ⟨m, hm, rfl⟩ := List.mem_map.1 hn
        exact hf m hm
      have := tgtS_len hfc strong
      rw [List.length_append]; omega
    have hDl := blk_lt hK
    have hwW := hb.size
    have hwD : w.heap.size ≤ D := Nat.le_trans hb05.size hD
    clear hK hO h8 h7 h0 hM hz5 hZo
    go_wp2_with (go_at_call 35; refine (setI_any OA Oc O _ (((ho.later _).at_ IDE.enc).2.2) hOl).mono ?_; rintro r w9 ⟨q, QA, Qc, hq, rfl, hoq, hb9⟩; have l9 := later hb9)
    exact ret_marked rfl (HD _) (results_tmp rfl _ _ _) ⟨q, QA, Qc, hide (by rw [hq.out, hO'.out]), rfl, (own_putObj hoq hDl).mono (by omega), putObj_below (hb.trans (hb9.mono (by omega))) (by omega)⟩
end Go.Proofs.Ytnfpbkimdhhmfaa

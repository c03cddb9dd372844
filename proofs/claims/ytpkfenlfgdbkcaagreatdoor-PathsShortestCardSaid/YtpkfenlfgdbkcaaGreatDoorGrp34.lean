/-
  Small texts of this seat, put into one. Conditions stand in each theorem.
-/
import Derived.Test.YtpkfenlfgdbkcaaGreatDoorGrpA
import Derived.Laws.IdiomCopy
import Derived.Deep.Upon
import Derived.Test.YtpkfenlfgdbkcaaGreatDoorGrp33
import Derived.Test.YtpkfenlfgdbkcaaGreatDoorGrp30
set_option linter.unusedSimpArgs false
set_option linter.unusedVariables false
namespace Go.Proofs.YtpkfenlfgdbkcaaGreatDoor
open Go.RowKit
section
variable {α : Type} {f : α → List Value} {s : Nat} {e : TypeId} {base : Nat} {w w' : World} {l : List α} {g n c : Nat}
theorem flat_take_len (he : Enc f s) : ∀ (l : List α) (k : Nat), (l.take k).flatMap f = (l.flatMap f).take (k * s)
  | [], k => by simp
  | x :: l, 0 => by simp
  | x :: l, k + 1 => by
    have := flat_take_len he l k
    rw [List.take_succ_cons, List.flatMap_cons, List.flatMap_cons, List.take_append, he.len, this]
    rw [List.take_of_length_le (l := f x) (by rw [he.len, Nat.succ_mul]; omega)]
    rw [Nat.succ_mul, Nat.add_sub_cancel]
theorem Own.cut (h : Own f s e base w (.slice (some ⟨g, 0, none⟩) n c) l) (he : Enc f s) {k : Nat} (hk : k ≤ l.length) : Own f s e base w (.slice (some ⟨g, 0, none⟩) k c) (l.take k) := by
  have hn := h.len
  subst hn
  have hlen : (l.take k).length = k := by rw [List.length_take]; omega
  unfold Own
  refine ⟨by rw [he.flat_length], ?_⟩
  rcases h.2 with ⟨h0, _⟩ | ⟨g', cap, cur, hv, hb, hg, hc, hm, hsz, hx⟩
  · cases h0
  injection hv with h1 h2 h3
  injection h1 with h1
  injection h1 with h1
  subst h1 h3
  refine .inr ⟨g, c, cur, by rw [hlen], hb, hg, by omega, hm, hsz, ?_⟩
  rw [hlen, flat_take_len he, ← hx, List.take_take]
  congr 1
  exact (Nat.min_eq_left (Nat.mul_le_mul_right _ hk)).symm
theorem heap_setCells (g : Nat) : ∀ (vs : List Value) (o : Nat) (w : World) (cur : Array Value), w.heap[g]? = some (.cells cur e (0, 0)) → ∃ cur', (w.setCells g o vs).heap[g]? = some (.cells cur' e (0, 0)) ∧ cur'.size = cur.size ∧ cur'.toList.take o = cur.toList.take o
  | [], o, w, cur, h => ⟨cur, h, rfl, rfl⟩
  | v :: vs, o, w, cur, h => by
    obtain ⟨cur', h1, h2, h3⟩ := heap_setCells g vs (o + 1) (w.setCell ⟨g, o, none⟩ v) _ (blk_set h o v)
    refine ⟨cur', h1, by rw [h2]; simp, ?_⟩
    have := congrArg (List.take o) h3
    rw [List.take_take, List.take_take, Nat.min_eq_left (by omega)] at this
    rw [this]
    simp [List.take_set_of_le]
theorem setCells_size (g : Nat) : ∀ (vs : List Value) (o : Nat) (w : World), (w.setCells g o vs).heap.size = w.heap.size
  | [], _, _ => rfl
  | v :: vs, o, w => by
    rw [World.setCells, setCells_size g vs (o + 1)]
    simp [World.setCell]
theorem setCells_grownBy (g : Nat) : ∀ (vs : List Value) (o : Nat) (w : World), w.grownBy (w.setCells g o vs) (some g)
  | [], _, w => World.grownBy.refl w _
  | v :: vs, o, w => (grown_setCell w ⟨g, o, none⟩ v).trans (setCells_grownBy g vs (o + 1) _)
theorem Own.setCells (h : Own f s e base w (.slice (some ⟨g, 0, none⟩) n c) l) (he : Enc f s) (vs : List Value) {o : Nat} (ho : n * s ≤ o) : Own f s e base (w.setCells g o vs) (.slice (some ⟨g, 0, none⟩) n c) l := by
  have hn := h.len
  subst hn
  refine ⟨h.1, ?_⟩
  rcases h.2 with ⟨h0, _⟩ | ⟨g', cap, cur, hv, hb, hg, hc, hm, hsz, hx⟩
  · cases h0
  injection hv with h1 h2 h3
  injection h1 with h1
  injection h1 with h1
  subst h1 h3
  obtain ⟨cur', e1, e2, e3⟩ := heap_setCells g vs o w cur hg
  refine .inr ⟨g, c, cur', rfl, hb, e1, hc, hm, by rw [e2]; exact hsz, ?_⟩
  have := congrArg (List.take (l.length * s)) e3
  rw [List.take_take, List.take_take, Nat.min_eq_left ho] at this
  rw [this]; exact hx
/-- clear(xs[k:]) on the call's own xs: what is left of it is its first k elements. -/
theorem run_clear_own {P : Program} {t : TypeId} {bytes : Nat} {ty : TypeId} (he : Enc f s) (ht : ElemT P t e s bytes) (z : Value) (hz : ∀ w, (zeroValue e).run P w = .ok z w) (hz1 : ∀ u ∈ z.cells.toList, u.oneCell' = true) (hzs : z.cells.size = s)
    (h : Own f s e base w (.slice (some ⟨g, 0, none⟩) n c) l) {k m d : Nat} (hm : k + m = l.length) (hb : base ≤ w.heap.size) :
    ∃ w', (Builtin.clear_ #[t] ty #[.slice (some ⟨g, k * s, none⟩) m d]).run P w = .ok (.tuple #[]) w' ∧ Own f s e base w' (.slice (some ⟨g, 0, none⟩) k c) (l.take k) ∧ w.grownBy w' (some g) ∧ Below base w w' := by
  have hcut := h.cut he (k := k) (by omega)
  by_cases hm0 : m = 0
  · subst hm0
    refine ⟨w, ?_, hcut, World.grownBy.refl w _, Below.refl _ _⟩
    simp [Builtin.clear_, run_underlying ht.slice]
  · have hn := h.len
    subst hn
    have hcells : ∀ j, j < l.length * s → (w.cell? ⟨g, j, none⟩).isSome = true := fun j hj => by
      have hs := he.pos
      have hk : j / s < l.length := by rw [Nat.div_lt_iff_lt_mul hs]; exact hj
      have hr : j % s < s := Nat.mod_lt _ hs
      have hje : j / s * s + j % s = j := by rw [Nat.mul_comm]; exact Nat.div_add_mod j s
      have hx := List.getElem?_eq_getElem hk
      have hu : ∃ u, (f l[j / s])[j % s]? = some u := ⟨_, List.getElem?_eq_getElem (by rw [he.len]; exact hr)⟩
      obtain ⟨u, hu⟩ := hu
      have := h.cell he hx hu
      rw [hje] at this
      rw [this]; rfl
    have hzc : (Builtin.zeroCells z.cells m).size = m * s := by simp [Builtin.zeroCells, hzs, Nat.mul_comm]
    have hz2 : ∀ u ∈ (Builtin.zeroCells z.cells m).toList, u.oneCell' = true := by
      intro u hu
      simp only [Builtin.zeroCells] at hu
      rw [List.mem_iff_getElem] at hu
      obtain ⟨i, hi, rfl⟩ := hu
      simp
      apply hz1
      have hlt : i % z.cells.size < z.cells.size := Nat.mod_lt _ (by rw [hzs]; exact he.pos)
      rw [getElem!_pos z.cells _ hlt]
      exact Array.mem_toList_iff.2 (Array.getElem_mem hlt)
    have hlen : (Builtin.zeroCells z.cells m).toList.length = m * s := by rw [Array.length_toList]; exact hzc
    have hks : k * s + m * s = l.length * s := by rw [← Nat.add_mul, hm]
    have hst := run_storeCells_cells (P := P) g (k * s) (Builtin.zeroCells z.cells m).toList 0 w (fun j hj => hcells _ (by rw [hlen] at hj; omega)) (fun j _ => h.free _) hz2
    simp only [Nat.add_zero] at hst
    refine ⟨w.setCells g (k * s) (Builtin.zeroCells z.cells m).toList, ?_, hcut.setCells he _ (Nat.le_refl _), setCells_grownBy g _ _ w, ?_⟩
    · obtain ⟨m', rfl⟩ : ∃ m', m = m' + 1 := ⟨m - 1, by omega⟩
      simp [Builtin.clear_, run_underlying ht.slice, hz, hst]
    · exact (Below.refl base w).grown (setCells_grownBy g _ _ w) hb (fun k hk => by injection hk with hk; subst hk; exact h.base_le)
theorem wpList_clear {P : Program} {t : TypeId} {bytes : Nat} {ops : Array Oper} {rest : List Oper} {o : Oper} {a : Act} {Q : Exit → Act → World → Prop} (hgd : o.guard = none) (x : Operand)
    (ho : o.op = .call { callee := .builtin .clear, args := #[x], argTypes := #[t] }) (he : Enc f s) (ht : ElemT P t e s bytes) (z : Value) (hz : ∀ w, (zeroValue e).run P w = .ok z w) (hz1 : ∀ u ∈ z.cells.toList, u.oneCell' = true) (hzs : z.cells.size = s)
    (h : Own f s e base w (.slice (some ⟨g, 0, none⟩) n c) l) (k m d off : Nat) (hx : a.eval x = .slice (some ⟨g, off, none⟩) m d) (hoff : off = k * s) (hm : k + m = l.length) (hb : base ≤ w.heap.size)
    (hk : ∀ w', Own f s e base w' (.slice (some ⟨g, 0, none⟩) k c) (l.take k) → w.grownBy w' (some g) → Below base w w' → wpList P ops Q rest (a.put o.dst (.tuple #[])) w') : wpList P ops Q (o :: rest) a w :=
  wpList_plain hgd fun K hK => by
    subst hoff
    obtain ⟨w', hrun, h2, h3, h4⟩ := run_clear_own (P := P) (ty := o.type) (d := d) he ht z hz hz1 hzs h hm hb
    unfold Oper.wp execOp
    simp only [ho, resolve, invoke, builtin, Sem.run_bind, Sem.run_pure, Result.andThen_ok, List.map_toArray, List.map_cons, List.map_nil, hx, hrun]
    exact hK _ _ (hk w' h2 h3 h4)
end
end Go.Proofs.YtpkfenlfgdbkcaaGreatDoor

namespace Go.Proofs.YtpkfenlfgdbkcaaGreatDoor
open Go.RowKit
attribute [local go_sem ↓] run_eql_id run_neq_id
theorem ltI_tri {x y : IDE} (h : ¬ ltI x y) (k : x ≠ y) : ltI y x := by
  rcases ltI_total x y with h1 | h1 | h1
  · exact absurd h1 h
  · exact absurd h1 k
  · exact h1
theorem ideq_dec (x y : IDE) : ideq x.machine x.serial y.machine y.serial = decide (x = y) := ideq_iff
/-! ### Compact -/
def cptStep (acc : List IDE) (x : IDE) : List IDE := if acc.getLast? = some x then acc else acc ++ [x]
def cpt (l : List IDE) : List IDE := l.foldl cptStep []
theorem cpt_last (l : List IDE) : (cpt l).getLast? = l.getLast? := by
  rcases List.eq_nil_or_concat l with rfl | ⟨l', x, rfl⟩
  · rfl
  · rw [List.concat_eq_append]
    unfold cpt
    rw [List.foldl_append]
    simp only [List.foldl_cons, List.foldl_nil, cptStep]
    split
    · rename_i h; rw [h]; simp
    · simp
theorem cpt_snoc (l : List IDE) (x : IDE) : cpt (l ++ [x]) = if l.getLast? = some x then cpt l else cpt l ++ [x] := by
  have h : cpt (l ++ [x]) = cptStep (cpt l) x := by unfold cpt; rw [List.foldl_append]; rfl
  rw [h, cptStep, cpt_last]
theorem cpt_mem (l : List IDE) : ∀ x, x ∈ cpt l ↔ x ∈ l := by
  have : ∀ (r : List IDE) (x : IDE), x ∈ cpt r.reverse ↔ x ∈ r.reverse := by
    intro r
    induction r with
    | nil => intro x; simp [cpt]
    | cons y r ih =>
      intro x
      rw [List.reverse_cons, cpt_snoc]
      split
      · rename_i h
        rw [ih, List.mem_append, List.mem_singleton]
        constructor
        · exact .inl
        · rintro (h1 | rfl)
          · exact h1
          · exact List.mem_of_getLast? h
      · rw [List.mem_append, List.mem_append, ih]
  have h := this l.reverse
  rwa [List.reverse_reverse] at h
theorem cpt_take {l : List IDE} {k : Nat} {x y : IDE} (hx : l[k]? = some x) (hy : l[k + 1]? = some y) : cpt (l.take (k + 1 + 1)) = if x = y then cpt (l.take (k + 1)) else cpt (l.take (k + 1)) ++ [y] := by
  rw [take_snoc_get hy, cpt_snoc, take_snoc_get hx]
  simp
theorem cpt_le (l : List IDE) : (cpt l).length ≤ l.length := by
  have : ∀ (r : List IDE), (cpt r.reverse).length ≤ r.length := by
    intro r
    induction r with
    | nil => simp [cpt]
    | cons y r ih =>
      rw [List.reverse_cons, cpt_snoc]
      split
      · simp only [List.length_cons]; omega
      · simp only [List.length_append, List.length_cons, List.length_nil]; omega
  have h := this l.reverse
  rwa [List.reverse_reverse, List.length_reverse] at h
theorem cpt_strict {l : List IDE} (h : l.Pairwise fun x y => ¬ ltI y x) : SortedI (cpt l) := by
  have : ∀ (r : List IDE), r.reverse.Pairwise (fun x y => ¬ ltI y x) → SortedI (cpt r.reverse) := by
    intro r
    induction r with
    | nil => intro _; exact List.Pairwise.nil
    | cons y r ih =>
      rw [List.reverse_cons, cpt_snoc]
      intro hp
      rw [List.pairwise_append] at hp
      obtain ⟨h1, -, h3⟩ := hp
      split
      · exact ih h1
      · rename_i hl
        refine List.pairwise_append.2 ⟨ih h1, by simp, fun a ha b hb => ?_⟩
        rw [List.mem_singleton] at hb
        subst hb
        rw [cpt_mem] at ha
        obtain ⟨r', z, hr⟩ : ∃ r' z, r.reverse = r' ++ [z] := by
          rcases List.eq_nil_or_concat r.reverse with e | ⟨r', z, e⟩
          · rw [e] at ha; cases ha
          · exact ⟨r', z, by rw [e, List.concat_eq_append]⟩
        have hz : ltI z b := by
          have hzb : ¬ ltI b z := h3 z (by rw [hr]; simp) b (by simp)
          by_cases e : b = z
          · subst e; rw [hr] at hl; simp at hl
          · exact ltI_tri hzb e
        rw [hr] at ha h1
        rcases List.mem_append.1 ha with ha | ha
        · have haz := (List.pairwise_append.1 h1).2.2 a ha z (by simp)
          by_cases e : z = a
          · subst e; exact hz
          · exact ltI_trans (ltI_tri haz e) hz
        · rw [List.mem_singleton] at ha; subst ha; exact hz
  have k := this l.reverse
  rw [List.reverse_reverse] at k
  exact k h
theorem id_at {A : Option Addr} {l : List IDE} {w : World} (h : SlAt IDE.cells 2 w A l) {k : Nat} {x : IDE} (hx : l[k]? = some x) : ∃ b off, A = some ⟨b, off, none⟩ ∧ (∀ u [Later w u], u.cell? ⟨b, off + k * 2, none⟩ = some (.int .i64 x.machine)) ∧ (∀ u [Later w u], u.cell? ⟨b, off + k * 2 + 1, none⟩ = some (.int .i64 x.serial)) := by
  obtain ⟨b, off, e, hlt, hc⟩ := h (by rintro rfl; simp at hx)
  refine ⟨b, off, e, Later.cell (b := w) ?_, Later.cell (b := w) ?_⟩
  · simpa using hc k x hx 0 _ rfl
  · exact hc k x hx 1 _ rfl
theorem zeroId (w : World) : (zeroValue 24).run Tryz.prog w = .ok (.agg #[.int .i64 0, .int .i64 0]) w := by kernel_rfl
set_option maxRecDepth 100000 in
set_option maxHeartbeats 4000000 in
theorem compact_any (A : Option Addr) (c : Nat) (l : List IDE) (base : Nat) (w : World) (hown : Own IDE.cells 2 24 base w (.slice A l.length c) l) (hl : l.length ≤ 1000000000) (hb : base ≤ w.heap.size) :
    Calls Tryz.prog 80 #[.slice A l.length c] w fun r w' => ∃ q, Hid (q = cpt l) ∧ r = .returned (.slice A q.length c) ∧ Own IDE.cells 2 24 base w' (.slice A q.length c) q ∧ Below base w w' := by
  by_cases h2 : l.length < 2
  · have hq := hide (show l = cpt l by
      match l, h2 with
      | [], _ => rfl
      | [x], _ => rfl
      | x :: y :: l, h => simp at h; omega)
    go_enter Tryz.func80, Tryz.ntmps80
    go_wp2_with fail
    go_ret
    exact ⟨l, hq, rfl, hown, Below.refl _ _⟩
  have hcap := (hown.at_ IDE.enc).2.1
  obtain ⟨g, rfl⟩ := hown.isSome (by rintro rfl; simp at h2)
  have h2' : ¬ (l.length : Int) < 2 := by omega
  go_enter Tryz.func80, Tryz.ntmps80
  go_wp2_with fail
  go_loopw [3] (fun iv wr => ∃ k : Nat, 1 ≤ k ∧ k ≤ l.length ∧ iv = .int .i64 k ∧ cpt (l.take k) = l.take k ∧ Below w.heap.size w wr) (fun iv _ => l.length - (intOf iv).toNat)
  case atStart => exact ⟨1, by omega, by omega, rfl, (by
    match l, h2 with
    | [], h => simp at h
    | x :: l, _ => simp [cpt, cptStep]), Below.refl _ _⟩
  case round =>
    obtain ⟨k, hk1, hk, rfl, hok, hbr⟩ := hrel
    have lr := later hbr
    have Hok := hide hok
    clear hok
    have hor := hown.below hbr
    have hsr := (hor.at_ IDE.enc).2.2
    by_cases hlt : k < l.length
    · obtain ⟨j, hj⟩ : ∃ j : Nat, k = j + 1 := ⟨k - 1, by omega⟩
      have hj1 : ((k : Int) - 1) = (j : Int) := by omega
      obtain ⟨y, hy⟩ : ∃ y, l[k]? = some y := ⟨_, List.getElem?_eq_getElem hlt⟩
      obtain ⟨x, hx⟩ : ∃ x, l[j]? = some x := ⟨_, List.getElem?_eq_getElem (by omega)⟩
      obtain ⟨g', o', e1, C1, C2⟩ := id_at hsr hy
      injection e1 with e1
      injection e1 with e1 e2
      subst e1 e2
      obtain ⟨g', o', e1, D1, D2⟩ := id_at hsr hx
      injection e1 with e1
      injection e1 with e1 e2
      subst e1 e2
      simp only [Nat.zero_add] at C1 C2 D1 D2
      have hjl : (j : Int) < (l.length : Int) := by omega
      have Hstep := hide (show cpt (l.take (k + 1)) = if x = y then cpt (l.take k) else cpt (l.take k) ++ [y] by rw [hj] at hy ⊢; exact cpt_take hx hy)
      have Hj := hide hj
      have Hx := hide hx
      have Hy := hide hy
      have hideq := ideq_dec y x
      clear hj hx hy
      cases hq : ideq y.machine y.serial x.machine x.serial
      · have Hne := hide (show ¬ x = y by rw [hq] at hideq; intro e; simp [e] at hideq)
        clear hideq
        go_upto_region 6 with fail
        (refine wp_region_after (by kernel_rfl) (by kernel_rfl) ?_
         repeat (any_goals (first | go_big_quiet_skip | (go_big_quiet_want; go_big_quiet_op; first | go_big_quiet_on | go_big_quiet_call (fail)) | quiet_step (fail) | (refine wpQuiet_step (fun K hK => ?_); go_simp; split <;> (refine hK _ ?_; clear hK K))))
         all_goals (refine wpQuiet_nil ?_; intro _ hw'; obtain ⟨u', hw''⟩ := hw'; subst hw''; obtain ⟨wd, hbd⟩ := u'; simp only [After.val_mk]))
        have ld := later hbd
        go_wp2_with fail
        go_roundw
        case rel => exact ⟨k + 1, by omega, by omega, by go_num, by rw [Hstep.out, if_neg Hne.out, Hok.out, take_snoc_get Hy.out], below_of⟩
        case measure => simp [intOf]; omega
      · have Heq := hide (show x = y by rw [hq] at hideq; exact (of_decide_eq_true hideq.symm).symm)
        clear hideq
        go_upto_region 6 with fail
        (refine wp_region_after (by kernel_rfl) (by kernel_rfl) ?_
         repeat (any_goals (first | go_big_quiet_skip | (go_big_quiet_want; go_big_quiet_op; first | go_big_quiet_on | go_big_quiet_call (fail)) | quiet_step (fail) | (refine wpQuiet_step (fun K hK => ?_); go_simp; split <;> (refine hK _ ?_; clear hK K))))
         all_goals (refine wpQuiet_nil ?_; intro _ hw'; obtain ⟨u', hw''⟩ := hw'; subst hw''; obtain ⟨wd, hbd⟩ := u'; simp only [After.val_mk]))
        have ld := later hbd
        have hbd' : Below w.heap.size w wd := below_of
        clear C1 C2 D1 D2
        have hck : ¬ c = k := by omega
        have h0k : (0 : Int) ≤ (k : Int) := by omega
        have hkc : (k : Int) ≤ (c : Int) := by omega
        have hkl : (k : Int) ≤ (l.length : Int) := by omega
        have hzd := hbd'.size
        have hod := hown.below hbd'
        go_wp2_with fail
        go_loopw [3, 5] (fun iv jv wr => ∃ (a m : Nat) (cur : List IDE), 1 ≤ m ∧ k + m ≤ l.length ∧ a + 1 ≤ k + m ∧ 1 ≤ a ∧ iv = .int .i64 a ∧ jv = .int .i64 m ∧ cur.length = l.length ∧ cur.take a = cpt (l.take (k + m)) ∧ cur.drop (k + m - 1) = l.drop (k + m - 1) ∧
          Own IDE.cells 2 24 base wr (.slice (some ⟨g, 0, none⟩) l.length c) cur ∧ Below base w wr) (fun _ jv _ => l.length - (intOf jv).toNat)
        case atStart => exact ⟨k, 1, l, by omega, by omega, by omega, by omega, rfl, rfl, rfl, by rw [Hstep.out, if_pos Heq.out]; exact Hok.out.symm, rfl, hod, hbd'.mono hb⟩
        case round =>
          clear lr ld
          obtain ⟨a, m, cur, hm1, hml, ham, ha1, rfl, rfl, hcl, htk, hdr, ho, hbq⟩ := hrel
          have Htk := hide htk
          have Hdr := hide hdr
          have Hcl := hide hcl
          clear htk hdr
          have hsq := (ho.at_ IDE.enc).2.2
          have hzq := hbq.size
          by_cases hlt2 : m < l.length - k
          · obtain ⟨p, hp⟩ : ∃ p : Nat, m = p + 1 := ⟨m - 1, by omega⟩
            have hp1 : ((m : Int) - 1) = (p : Int) := by omega
            have hpl : (p : Int) < ((l.length - k : Nat) : Int) := by omega
            have hml2 : (m : Int) < ((l.length - k : Nat) : Int) := by omega
            obtain ⟨u, hu⟩ : ∃ u, l[k + m]? = some u := ⟨_, List.getElem?_eq_getElem (by omega)⟩
            obtain ⟨v, hv⟩ : ∃ v, l[k + p]? = some v := ⟨_, List.getElem?_eq_getElem (by omega)⟩
            have huc : cur[k + m]? = some u := by
              have h1 : (cur.drop (k + m - 1))[1]? = (l.drop (k + m - 1))[1]? := by rw [Hdr.out]
              rw [List.getElem?_drop, List.getElem?_drop, show k + m - 1 + 1 = k + m by omega] at h1
              rw [h1]; exact hu
            have hvc : cur[k + p]? = some v := by
              have h1 : (cur.drop (k + m - 1))[0]? = (l.drop (k + m - 1))[0]? := by rw [Hdr.out]
              rw [List.getElem?_drop, List.getElem?_drop, show k + m - 1 + 0 = k + p by omega] at h1
              rw [h1]; exact hv
            obtain ⟨g', o', e1, C1, C2⟩ := id_at hsq huc
            injection e1 with e1
            injection e1 with e1 e2
            subst e1 e2
            obtain ⟨g', o', e1, D1, D2⟩ := id_at hsq hvc
            injection e1 with e1
            injection e1 with e1 e2
            subst e1 e2
            simp only [Nat.zero_add, Nat.add_mul] at C1 C2 D1 D2
            have Hstep2 := hide (show cpt (l.take (k + m + 1)) = if v = u then cpt (l.take (k + m)) else cpt (l.take (k + m)) ++ [u] by
              have e : k + m = k + p + 1 := by omega
              rw [e] at hu ⊢; exact cpt_take hv hu)
            have Hp := hide hp
            have Hu := hide hu
            have Hv := hide hv
            have hideq := ideq_dec u v
            clear hp hu hv huc hvc hcl
            cases hq2 : ideq u.machine u.serial v.machine v.serial
            · have Hne := hide (show ¬ v = u by rw [hq2] at hideq; intro e; simp [e] at hideq)
              clear hideq
              go_upto_region 11 with fail
              (refine wp_region_after (by kernel_rfl) (by kernel_rfl) ?_
               repeat (any_goals (first | go_big_quiet_skip | (go_big_quiet_want; go_big_quiet_op; first | go_big_quiet_on | go_big_quiet_call (fail)) | quiet_step (fail) | (refine wpQuiet_step (fun K hK => ?_); go_simp; split <;> (refine hK _ ?_; clear hK K))))
               all_goals (refine wpQuiet_nil ?_; intro _ hw'; obtain ⟨u', hw''⟩ := hw'; subst hw''; obtain ⟨wd, hbd⟩ := u'; simp only [After.val_mk]))
              have ld := later hbd
              have ho3 := ho.below hbd
              obtain ⟨z, hz⟩ : ∃ z, cur[a]? = some z := ⟨_, List.getElem?_eq_getElem (by rw [Hcl.out]; omega)⟩
              have hal : a < cur.length := by rw [Hcl.out]; omega
              have hall : (a : Int) < (l.length : Int) := by omega
              have Hz := hide hz
              clear hz
              have e0 := ho3.cell IDE.enc Hz.out (j := 0) rfl
              have e1 := ho3.cell IDE.enc Hz.out (j := 1) rfl
              have z0 := ho3.free (a * 2)
              have z1 := ho3.free (a * 2 + 1)
              have hgb := ho3.base_le
              simp only [Nat.add_zero] at e0
              go_upto_region 13 with fail
              refine wp_name ?_
              intro w9 hv9
              have hb9 : Below base w w9 := by
                rw [← hv9]
                exact ((hbq.trans (hbd.mono (Nat.le_trans hb hzq))).setCell (by simp; omega) _).setCell (by simp; omega) _
              have ho9 := (ho3.store IDE.enc (j := 0) (u := .int .i64 u.machine) (x' := { z with machine := u.machine }) Hz.out (by omega) rfl).store IDE.enc (j := 1) (u := .int .i64 u.serial) (x' := u) (List.getElem?_set_self hal) (by omega) rfl
              rw [List.set_set] at ho9
              simp only [Nat.add_zero] at ho9
              rw [hv9] at ho9
              clear hv9 e0 e1 z0 z1 C1 C2 D1 D2 ld
              go_wp2_with fail
              go_roundw
              case rel =>
                refine ⟨a + 1, m + 1, cur.set a u, by omega, by omega, by omega, by omega, by go_num, by go_num, by rw [List.length_set]; exact Hcl.out, ?_, ?_, ho9, hb9⟩
                · rw [show k + (m + 1) = k + m + 1 from rfl, Hstep2.out, if_neg Hne.out, ← Htk.out, take_snoc_get (x := u) (List.getElem?_set_self hal), List.take_set_of_le (Nat.le_refl _)]
                · rw [List.drop_set_of_lt (by omega), show k + (m + 1) - 1 = (k + m - 1) + 1 by omega, ← List.drop_drop, ← List.drop_drop, Hdr.out]
              case measure => simp [intOf]; omega
            · have Heq2 := hide (show v = u by rw [hq2] at hideq; exact (of_decide_eq_true hideq.symm).symm)
              clear hideq
              go_upto_region 11 with fail
              (refine wp_region_after (by kernel_rfl) (by kernel_rfl) ?_
               repeat (any_goals (first | go_big_quiet_skip | (go_big_quiet_want; go_big_quiet_op; first | go_big_quiet_on | go_big_quiet_call (fail)) | quiet_step (fail) | (refine wpQuiet_step (fun K hK => ?_); go_simp; split <;> (refine hK _ ?_; clear hK K))))
               all_goals (refine wpQuiet_nil ?_; intro _ hw'; obtain ⟨u', hw''⟩ := hw'; subst hw''; obtain ⟨wd, hbd⟩ := u'; simp only [After.val_mk]))
              have ld := later hbd
              go_wp2_with fail
              go_roundw
              case rel =>
                refine ⟨a, m + 1, cur, by omega, by omega, by omega, by omega, rfl, by go_num, Hcl.out, ?_, ?_, ho.below hbd, hbq.trans (hbd.mono (Nat.le_trans hb hzq))⟩
                · rw [show k + (m + 1) = k + m + 1 from rfl, Hstep2.out, if_pos Heq2.out, Htk.out]
                · rw [show k + (m + 1) - 1 = (k + m - 1) + 1 by omega, ← List.drop_drop, ← List.drop_drop, Hdr.out]
              case measure => simp [intOf]; omega
          · have hm : k + m = l.length := by omega
            have hml2 : ¬ (m : Int) < ((l.length - k : Nat) : Int) := by omega
            obtain ⟨q, hq⟩ : ∃ q, q = cpt l := ⟨_, rfl⟩
            have hqa : cur.take a = q := by rw [hq, Htk.out, hm, List.take_length]
            have hqn : q.length = a := by rw [← hqa, List.length_take, Hcl.out]; omega
            have HQ := hide hq
            have HQA := hide hqa
            have HQN := hide hqn
            clear hq hqa hqn
            have h0a : (0 : Int) ≤ (a : Int) := by omega
            have hacc : (a : Int) ≤ (c : Int) := by omega
            have hal : (a : Int) ≤ (l.length : Int) := by omega
            have hca : ¬ c = a := by omega
            obtain ⟨w9, hrun, ho9, hg9, hb9⟩ := run_clear_own (P := Tryz.prog) (ty := 0) (d := c - a) (m := l.length - a) (k := a) IDE.enc idT (.agg #[.int .i64 0, .int .i64 0]) zeroId (by decide) rfl ho (by rw [Hcl.out]; omega) (Nat.le_trans hb hzq)
            go_wp2_with fail
            go_ret
            exact ⟨q, HQ, by rw [HQN.out]; rfl, by rw [HQN.out, ← HQA.out]; exact ho9, hbq.trans hb9⟩
    · have hk' : k = l.length := by omega
      subst hk'
      have Hq := hide (show l = cpt l by have := Hok.out; rw [List.take_length] at this; exact this.symm)
      go_wp2_with fail
      go_ret
      exact ⟨l, Hq, rfl, hor, hbr.mono hb⟩
end Go.Proofs.YtpkfenlfgdbkcaaGreatDoor

namespace Go.Proofs.YtpkfenlfgdbkcaaGreatDoor
open Go.RowKit
/-- What Set gives: the increasing list of the members, in a slice of the call's own. -/
def SetIPost (l : List IDE) (w : World) (r : Ending) (w' : World) : Prop := ∃ q A c, Hid (q = setI l) ∧ r = .returned (.slice A q.length c) ∧ Own IDE.cells 2 24 w.heap.size w' (.slice A q.length c) q ∧ Below w.heap.size w w'
set_option maxRecDepth 100000 in
set_option maxHeartbeats 2000000 in
theorem setI_any (A : Option Addr) (c : Nat) (l : List IDE) (w : World) (hs : SlAt IDE.cells 2 w A l) (hl : l.length ≤ 1000000000) :
    Calls Tryz.prog 45 #[.slice A l.length c] w (SetIPost l w) := by
  go_enter Tryz.func45, Tryz.ntmps45
  go_wp2_with (go_at_call 77; refine (cloneI_any A c l w hs hl).mono ?_)
  rintro r w1 ⟨A1, c1, rfl, h1, h2, ho1, hb1⟩
  go_wp2_with (go_at_call 78; refine (sortIds A1 c1 l w.heap.size w1 ho1 (by omega) hb1.size).mono ?_)
  rintro r w2 ⟨rfl, d, hp, hpw, ho2, hb2, hg2⟩
  have hdl := hide hp.length_eq
  have hb02 : Below w.heap.size w w2 := hb1.trans hb2
  rw [← hdl.out] at ho2 ⊢
  have hq : cpt d = setI l := setI_unique (cpt_strict (sortedJ hpw)) fun x => (cpt_mem d x).trans hp.mem_iff
  go_wp2_with (go_at_call 80; refine (compact_any A1 c1 d w.heap.size w2 ho2 (by rw [hdl.out]; exact hl) hb02.size).mono ?_)
  rintro r w3 ⟨q, hqq, rfl, ho3, hb3⟩
  go_wp2_with fail
  go_ret
  exact ⟨q, A1, c1, hide (hqq.out.trans hq), rfl, ho3, hb02.trans hb3⟩
end Go.Proofs.YtpkfenlfgdbkcaaGreatDoor

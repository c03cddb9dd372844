/-
  Contracts of the functions of this seat that each theorem names: what a call returns, and that it writes nothing that was there before. The conditions stand in each theorem.
-/
import Derived.Test.YtomgdkfoinojiaaS32Ans4
import Derived.Test.YtomgdkfoinojiaaS32Few
import Derived.Test.YtomgdkfoinojiaaS32Awake2
import Derived.Laws.MakeOwn
namespace Go.Proofs.Ytomgdkfoinojiaa
open Go.RowKit
attribute [local simp] heap_drew
theorem own_one {w : World} {g : Nat} {y : SumE} {base : Nat} (h : w.heap[g]? = some (.cells y.arr 41 (0, 0))) (hg : base ≤ g) : Own SumE.cells 5 41 base w (.slice (some ⟨g, 0, none⟩) 1 1) [y] :=
  ⟨rfl, .inr ⟨g, 1, _, rfl, hg, h, by simp, by simp [maxLen], rfl, rfl⟩⟩
theorem ans_far8 {w : World} {g k : Nat} {v0 v1 v2 v3 v4 v5 v6 v7 : Value} (h : k ≠ g) :
    ((((((((w.setCell ⟨g, 0, none⟩ v0).setCell ⟨g, 1, none⟩ v1).setCell ⟨g, 2, none⟩ v2).setCell ⟨g, 3, none⟩ v3).setCell ⟨g, 4, none⟩ v4).setCell ⟨g, 5, none⟩ v5).setCell ⟨g, 6, none⟩ v6).setCell ⟨g, 7, none⟩ v7).heap[k]? = w.heap[k]? := by
  rw [blk_far (p := ⟨g, 7, none⟩) h, blk_far (p := ⟨g, 6, none⟩) h, blk_far (p := ⟨g, 5, none⟩) h, blk_far (p := ⟨g, 4, none⟩) h, blk_far (p := ⟨g, 3, none⟩) h, blk_far (p := ⟨g, 2, none⟩) h, blk_far (p := ⟨g, 1, none⟩) h, blk_far (p := ⟨g, 0, none⟩) h]
theorem set8_named {P : World → Prop} {w : World} {g : Nat} {a0 a1 a2 a3 a4 a5 a6 a7 v0 v1 v2 v3 v4 v5 v6 v7 : Value} {t : TypeId} (h : w.heap[g]? = some (.cells #[a0, a1, a2, a3, a4, a5, a6, a7] t (0, 0)))
    (hk : ∀ wn : World, wn.heap[g]? = some (.cells #[v0, v1, v2, v3, v4, v5, v6, v7] t (0, 0)) → (∀ k, k ≠ g → wn.heap[k]? = w.heap[k]?) → (∀ B w0, Below B w0 w → B ≤ g → Below B w0 wn) → P wn) :
    P ((((((((w.setCell ⟨g, 0, none⟩ v0).setCell ⟨g, 1, none⟩ v1).setCell ⟨g, 2, none⟩ v2).setCell ⟨g, 3, none⟩ v3).setCell ⟨g, 4, none⟩ v4).setCell ⟨g, 5, none⟩ v5).setCell ⟨g, 6, none⟩ v6).setCell ⟨g, 7, none⟩ v7) :=
  hk _ (ans_set8 h) (fun _ hne => ans_far8 hne) (fun _ _ hb hg => ans_below8 hb hg)
theorem slAt_ne_new {α : Type} {f : α → List Value} {s : Nat} {w : World} {A : Option Addr} {l : List α} (h : SlAt f s w A l) : l ≠ [] → ∀ b o, A = some ⟨b, o, none⟩ → b ≠ w.heap.size := fun hl b o e => by
  obtain ⟨b2, o2, e2, hb, _⟩ := h hl
  rw [e] at e2
  injection e2 with e2
  injection e2 with e2 _
  omega
theorem fresh_ne {α : Type} {w : World} {A : Option Addr} {l : List α} {g : Nat} {x : Obj} (h : w.heap[g]? = some x) (hf : l ≠ [] → ∀ b o, A = some ⟨b, o, none⟩ → w.heap.size ≤ b) : l ≠ [] → ∀ b o, A = some ⟨b, o, none⟩ → b ≠ g := fun hl b o e => by
  have h1 := hf hl b o e
  have h2 := blk_lt h
  omega
theorem by_final {F G : Prop} (h : F → G) (hf : F) : G := h hf
theorem wpAnyH_cast {P : Program} {md : Region.Mode} {ops : Array Oper} {Q : Exit → Act → World → Prop} {S : World → Prop} {n : Nat} {l l' : Array Bool} {a : Act} {w : World} (h : l = l') (hw : wpAnyH P md ops Q S n l' a w) : wpAnyH P md ops Q S n l a w := h ▸ hw
theorem ne_new {w : World} {g : Nat} {x : Obj} (h : w.heap[g]? = some x) : w.heap.size ≠ g := by
  have h2 := blk_lt h
  omega
theorem stubT8 : ElemT Try.prog 27 52 12 80 := ElemT.mk' (z := .agg #[.int .i64 0, .int .u64 0, .int .i64 0, .int .i64 0, .int .i64 0, .int .i64 0, .int .i64 0, .bool false, .bool false, .bool false, .int .i64 0, .int .i64 0]) Try.underlying27 (by kernel_rfl) rfl
theorem make_stubs (w : World) (N : Nat) (hN : N ≤ 2940000000000) : ∃ cs, (Instr.makeSlice 27 (.int .i64 N) (.int .i64 N)).run Try.prog w = .ok (.slice (some ⟨w.heap.size, 0, none⟩) N N) (w.alloc (.cells cs 52)) := by
  obtain ⟨i, z, h1, h2, h3, h4, h5⟩ := stubT8.info
  have h := run_make (P := Try.prog) w 27 52 i z stubT8.slice h1 h2 .i64 .i64 (N : Int) (N : Int) (by omega) (by omega) (by rw [h4]; omega) (by omega)
  exact ⟨_, h⟩
def q0 (o n : Int) : SumE := ⟨o, n, false, 0, none, 0, []⟩
theorem fewS_any (A : Option Addr) (N c : Nat) (w : World) (hN : N ≤ 100000000000000) :
    Calls Try.prog 11 #[.agg #[.slice none 0 0, .slice none 0 0, .slice none 0 0, .slice A N c, .int .i64 0]] w fun r w' => r = .returned (.bool (decide (N ≤ 100))) ∧ Below w.heap.size w w' := by
  have h := few_any none 0 [] none none A 0 0 0 0 N c 0 w ⟨SlAt.nil, by simp, by simp⟩ (by simp [fieldsN, conL]; omega)
  have e : 0 + 0 + N + ([] : List NodeE).length + fieldsN (conL []) = N := by simp [fieldsN, conL]
  rw [e] at h
  exact h
set_option maxRecDepth 100000 in
set_option maxHeartbeats 40000000 in
theorem answers_any (ep : Int) (A : Option Addr) (c : Nat) (l : List SumE) (m o n lu : Int) (w : World) (H : SumsAt w A l) (hl : l.length ≤ 2940000000000) (hil : ∀ x ∈ l, x.inset.length ≤ 9223372036854775807) : Calls Try.prog 8 #[.agg #[.int .i64 ep, .slice A l.length c], .int .i64 m, .int .i64 o, .int .u64 n, .int .i64 lu] w fun r w' => r = .returned (.bool true) ∧ Below w.heap.size w w' := by
  have HL := H.later
  have hl' : l.length ≤ 9223372036854775807 := by omega
  go_enter Try.func8, Try.ntmps8
  go_upto_region 1 with fail
  refine wp_name ?_
  intro w0 hw0
  obtain ⟨B0, l0⟩ := box1 hw0
  clear hw0
  have HF : ∀ (g : Nat) (u : World), Calls Try.prog 11 #[.agg #[.slice none 0 0, .slice none 0 0, .slice none 0 0, .slice (some ⟨g, 0, none⟩) l.length l.length, .int .i64 0]] u fun r w' => r = .returned (.bool (decide (l.length ≤ 100))) ∧ Below u.heap.size u w' := fun g u => fewS_any _ _ _ u (by omega)
  obtain ⟨cs, hmk⟩ := make_stubs w0 l.length hl
  by_cases hN : l.length ≤ 100
  rotate_left
  · rw [decide_eq_false hN] at HF
    go_wp2_with (first | (go_at_call 11; refine (HF _ _).mono ?_; rintro r w2 ⟨rfl, hb2⟩; have l2 := later hb2) | (go_at_call 15; refine (awake_any _).mono ?_; rintro r w9 ⟨rfl, hb9⟩; have l9 := later hb9))
    go_ret
    exact ⟨rfl, below_of⟩
  · rw [decide_eq_true hN] at HF
    go_upto_region 4 with (first | (go_at_call 11; refine (HF _ _).mono ?_; rintro r w2 ⟨rfl, hb2⟩; have l2 := later hb2))
    refine wp_name ?_
    intro w3 hw3
    have b3 : w3.heap[w2.heap.size]? = some (.cells (q0 o n).arr 41 (0, 0)) := (by rw [← hw3]; simp only [heap_alloc_if, World.size_alloc]; repeat (first | rw [if_pos trivial] | rw [if_neg (by omega)] | rw [if_pos (by omega)]); try rfl)
    have hb3 : Below w2.heap.size w2 w3 := by rw [← hw3]; exact (by repeat (first | with_reducible exact Below.refl _ _ | (with_reducible refine Below.drew ?_) | (with_reducible refine below_drewN ?_ _) | (with_reducible refine Below.alloc ?_ ?_ _; rotate_left; (first | omega | (simp <;> omega))) | (with_reducible refine Below.setCell ?_ ?_ _; rotate_left; (first | omega | (simp <;> omega)))))
    clear hw3 hmk HF
    have l3 := later hb3
    have HO3 := hide (own_one b3 (Nat.le_refl _))
    clear b3
    go_wp2_with fail
    go_loopw [11, 37] (fun qv iv wr => ∃ (k : Nat) (cur : List SumE) (QA : Option Addr) (Qc : Nat), k ≤ l.length ∧ iv = .int .i64 k ∧ qv = .slice QA cur.length Qc ∧ cur.length = k + 1 ∧ Hid (∀ x ∈ l.take k, x.inset.length ≤ 100) ∧ Hid (cur = q0 o n :: l.take k) ∧ Hid (Own SumE.cells 5 41 w2.heap.size wr (.slice QA cur.length Qc) cur) ∧ Below w2.heap.size w2 wr) (fun _ iv _ => l.length - (intOf iv).toNat)
    case atStart => exact ⟨0, [q0 o n], _, _, by omega, rfl, rfl, rfl, hide (by simp), hide (by simp), HO3, hb3⟩
    case round =>
      obtain ⟨k, cur, QA, Qc, hk, rfl, rfl, hcl, hxs, hcur, hoq, hbr⟩ := hrel
      have lr := later hbr
      by_cases hlt : k < l.length
      · have hki : (k : Int) < (l.length : Int) := by omega
        obtain ⟨b1, o1, x, rfl, hx, C1, F1, hc1, hc2⟩ := (HL wr).get hlt
        have Hx := hide hx
        have Hxl := hide (hil x (List.mem_of_getElem? hx))
        clear hx F1
        have hxl := Hxl.out
        by_cases hin : x.inset.length ≤ 100
        rotate_left
        · go_wp2_with (first | (go_at_call 15; refine (awake_any _).mono ?_; rintro r w9 ⟨rfl, hb9⟩; have l9 := later hb9))
          go_ret
          exact ⟨rfl, below_of⟩
        · go_upto_region 7 with fail
          refine wp_name ?_
          intro w6 hw6
          obtain ⟨B6, l6⟩ := box1 hw6
          clear hw6
          have hoq6 := hoq.out.below (l6 wr).below
          have hz6 : w2.heap.size ≤ w6.heap.size := Nat.le_trans hbr.size (l6 wr).below.size
          have Hxs := hide (show ∀ y ∈ l.take (k + 1), y.inset.length ≤ 100 by
            rw [take_snoc_get Hx.out]
            intro y hy
            rcases List.mem_append.1 hy with hy | hy
            · exact hxs.out y hy
            · rw [List.mem_singleton] at hy; subst hy; exact hin)
          have Hcur := hide (show cur ++ [x] = q0 o n :: l.take (k + 1) by rw [take_snoc_get Hx.out, hcur.out]; rfl)
          clear hxs hcur
          go_wp2_with (at_builtin; refine wpList_app1 rfl (.tmp 46) (.tmp 48) rfl SumE.enc sumT x rfl rfl rfl hoq6 (by rfl) (by omega) (by unfold maxLen; omega) hz6 ?_; intro A9 c9 w9 ho9 hm9 hb9 hg9 hat9; have l99 : Later w9 w9 := Later.refl)
          go_roundw
          case rel => exact ⟨k + 1, cur ++ [x], A9, c9, by omega, by go_num, by simp [hcl], by rw [List.length_append, hcl]; rfl, Hxs, Hcur, hide (by rw [List.length_append]; exact ho9), (hbr.trans ((l6 wr).below.mono hbr.size)).trans hb9⟩
          case measure => simp [intOf]; omega
      · have hkk : k = l.length := by omega
        subst hkk
        have hil1 : ∀ x ∈ l, x.inset.length ≤ 100 := by have := hxs.out; rwa [List.take_length] at this
        have hcu : cur = q0 o n :: l := by have := hcur.out; rwa [List.take_length] at this
        have hlen : cur.length = l.length + 1 := hcl
        have HQ : ∀ u [Later wr u], SumsAt u (QA) cur := fun u i => by
          have ho := hoq.out.below i.below
          haveI := (lr w).trans i
          refine ⟨(ho.at_ SumE.enc).2.2, fun y hy => ?_, fun y hy => ?_⟩
          · rw [hcu] at hy
            rcases List.mem_cons.1 hy with rfl | hy
            · exact SlAt.nil
            · exact (HL u).f y hy
          · rw [hcu] at hy
            rcases List.mem_cons.1 hy with rfl | hy
            · exact ⟨Nat.le_refl _, Nat.zero_le _⟩
            · exact H.c y hy
        have HI1 := hide hil1
        clear hcu hcur hxs hoq hil1 hil HO3 hk hlt hcl
        have hl2 : l.length ≤ 1000000000 := by omega
        have HFi : ∀ (a b : Int) u [Later w u], Calls Try.prog 18 #[.agg #[.int .i64 ep, .slice A l.length c], .int .i64 a, .int .u64 b] u (FindP 0 a b l u) := fun a b u i => findS_any ep A c l a b u (HL u) hl2 (fun x hx => by have := HI1.out x hx; omega) 0
        have HRe : ∀ (a b : Int) u [Later w u], Calls Try.prog 23 #[.agg #[.int .i64 ep, .slice A l.length c], .int .i64 a, .int .u64 b] u (FindP w.heap.size a b l u) := fun a b u i => refFindS_any ep A c l a b u (HL u) hl2 w.heap.size (fun y hy hne b o' e => by
          obtain ⟨b2, o2, e2, hlt, _⟩ := H.f y hy hne
          rw [e] at e2
          injection e2 with e2
          injection e2 with e2 _
          omega)
        have HAn : ∀ (a b : Int) u [Later w u], Calls Try.prog 24 #[.agg #[.int .i64 ep, .slice A l.length c], .int .i64 m, .int .i64 a, .int .u64 b, .int .i64 lu] u (AnsP m a b ep lu (foundC a b l) u) := fun a b u i => answer_any ep A c l m a b lu u (HL u) hl2 (fun x hx => by have := HI1.out x hx; omega)
        have HRa : ∀ (a b : Int) u [Later w u], Calls Try.prog 25 #[.agg #[.int .i64 ep, .slice A l.length c], .int .i64 m, .int .i64 a, .int .u64 b, .int .i64 lu] u (AnsP m a b ep lu (foundC a b l) u) := fun a b u i => refAnswer_any ep A c l m a b lu u (HL u) hl2 (fun x hx => by have := HI1.out x hx; omega)
        unfold FindP at HFi HRe
        unfold AnsP at HAn HRa
        obtain ⟨wq, rfl⟩ : ∃ x, x = wr := ⟨_, rfl⟩
        have lrr : Later wq wq := Later.refl
        go_wp2_with fail
        go_loopw [53] (fun iv wr => ∃ j : Nat, j ≤ cur.length ∧ iv = .int .i64 j ∧ Below wq.heap.size wq wr) (fun iv _ => cur.length - (intOf iv).toNat)
        case atStart => exact ⟨0, by omega, rfl, Below.refl _ _⟩
        case round =>
          obtain ⟨j, hj, rfl, hby⟩ := hrel
          have lx := later hby
          by_cases hjl : j < cur.length
          · have hji : (j : Int) < (cur.length : Int) := by omega
            obtain ⟨b1, o1, x, rfl, hx, C1, F1, hc1, hc2⟩ := (HQ wr).get hjl
            clear hx F1
            obtain ⟨f, hf⟩ : ∃ f, f = foundC x.owner x.number l := ⟨_, rfl⟩
            have hfl : (f.getD zeroS).inset.length ≤ 100 := by
              cases hq : f with
              | none => simp [zeroS]
              | some s => exact foundC_len (hf ▸ hq) HI1.out
            have HFi := HFi x.owner x.number
            have HRe := HRe x.owner x.number
            have HAn := HAn x.owner x.number
            have HRa := HRa x.owner x.number
            rw [← hf] at HFi HRe HAn HRa
            clear hf
            go_upto_region 14 with fail
            refine wp_name ?_
            intro w6 hw6
            obtain ⟨B15, l6⟩ := box1 hw6
            clear hw6
            go_upto_region 15 with (go_at_call 18; refine (HFi _).mono ?_; rintro r w7 ⟨xa, rfl, hxa, hIa, -, hca1, hca2, hb7⟩; have l7 := later hb7)
            refine wp_name ?_
            intro w8 hw8
            obtain ⟨B16, l8⟩ := box1 hw8
            clear hw8
            go_upto_region 16 with (go_at_call 23; refine (HRe _).mono ?_; rintro r w9 ⟨xb, rfl, hxb, hIb, -, hcb1, hcb2, hb9⟩; have l9 := later hb9)
            refine wp_name ?_
            intro w10 hw10
            obtain ⟨B18, l10⟩ := box1 hw10
            clear hw10
            go_cut [20, 21] from 54 to 106 (fun s20 s21 wy => ∃ (g20 g21 : Nat) (SA SB : Option Addr) (ca cb : Nat) (il : List InsetE), s20 = .pointer (some ⟨g20, 0, none⟩) ∧ s21 = .pointer (some ⟨g21, 0, none⟩) ∧ wy.heap[g20]? = some (.cells #[.int .i64 m, .int .i64 x.owner, .int .u64 x.number, .int .i64 ep, .bool f.isSome, .bool (f.getD zeroS).rooted, .int .i64 (if f.isSome then lu else 0), .slice SA il.length ca] 67 (0, 0)) ∧ wy.heap[g21]? = some (.cells #[.int .i64 m, .int .i64 x.owner, .int .u64 x.number, .int .i64 ep, .bool f.isSome, .bool (f.getD zeroS).rooted, .int .i64 (if f.isSome then lu else 0), .slice SB il.length cb] 67 (0, 0)) ∧ il.length ≤ 100 ∧ SlAt InsetE.cells 3 wy SA il ∧ SlAt InsetE.cells 3 wy SB il ∧ Below w10.heap.size w10 wy)
            case first =>
              have HA2 : ∀ u, Below w10.heap.size w10 u → _ := fun u hb => haveI : Later w u := later hb w; HAn u
              have HR2 : ∀ u, Below w10.heap.size w10 u → _ := fun u hb => haveI : Later w u := later hb w; HRa u
              generalize hLU : (if f.isSome = true then lu else 0) = LU at HA2 HR2
              generalize hRO : (f.getD zeroS).rooted = ro at HA2 HR2
              have HLU := hide hLU
              have HRO := hide hRO
              clear hLU hRO
              refine wp_region_held_drew (S := fun w' => ∀ b [Later b w10], Later b w') (by kernel_rfl) (by intro b _; infer_instance) (fun hHeld => ?_)
              have hbz : Below w10.heap.size w10 w10.drew := (Below.refl _ _).drew
              generalize hwd : w10.drew = wz at hbz hHeld ⊢
              clear hwd
              refine wpAnyH_take (i := 0) (oi := _) (v := ?_) rfl (by kernel_rfl) (by kernel_rfl) (by kernel_rfl) (fun _ _ _ h => h) (Or.inl ⟨by rfl, ?_⟩) (by assumption) ?_
              rotate_left 1
              · (intro wy hSw; (try dsimp only at hSw); go_simp; try with_reducible rfl)
              (try simp only [Act.put])
              refine wpAnyH_take (i := 1) (oi := _) (v := ?_) rfl (by kernel_rfl) (by kernel_rfl) (by kernel_rfl) (fun _ _ _ h => h) (Or.inl ⟨by rfl, ?_⟩) (by assumption) ?_
              rotate_left 1
              · (intro wy hSw; (try dsimp only at hSw); go_simp; try with_reducible rfl)
              (try simp only [Act.put])
              refine wpAnyH_take (i := 2) (oi := _) (v := ?_) rfl (by kernel_rfl) (by kernel_rfl) (by kernel_rfl) (fun _ _ _ h => h) (Or.inl ⟨by rfl, ?_⟩) (by assumption) ?_
              rotate_left 1
              · (intro wy hSw; (try dsimp only at hSw); go_simp; try with_reducible rfl)
              (try simp only [Act.put])
              refine wpAnyH_take (i := 3) (oi := _) (v := ?_) rfl (by kernel_rfl) (by kernel_rfl) (by kernel_rfl) (fun _ _ _ h => h) (Or.inl ⟨by rfl, ?_⟩) (by assumption) ?_
              rotate_left 1
              · (intro wy hSw; (try dsimp only at hSw); go_simp; try with_reducible rfl)
              (try simp only [Act.put])
              refine wpAnyH_take (i := 4) (oi := _) (v := ?_) rfl (by kernel_rfl) (by kernel_rfl) (by kernel_rfl) (fun _ _ _ h => h) (Or.inl ⟨by rfl, ?_⟩) (by assumption) ?_
              rotate_left 1
              · (intro wy hSw; (try dsimp only at hSw); go_simp; try with_reducible rfl)
              (try simp only [Act.put])
              refine wpAnyH_take (i := 5) (oi := _) (v := ?_) rfl (by kernel_rfl) (by kernel_rfl) (by kernel_rfl) (fun _ _ _ h => h) (Or.inl ⟨by rfl, ?_⟩) (by assumption) ?_
              rotate_left 1
              · (intro wy hSw; (try dsimp only at hSw); go_simp; try with_reducible rfl)
              (try simp only [Act.put])
              refine wpAnyH_take (i := 6) (oi := _) (v := ?_) rfl (by kernel_rfl) (by kernel_rfl) (by kernel_rfl) (fun _ _ _ h => h) (Or.inl ⟨by rfl, ?_⟩) (by assumption) ?_
              rotate_left 1
              · (intro wy hSw; (try dsimp only at hSw); go_simp; try with_reducible rfl)
              (try simp only [Act.put])
              refine wpAnyH_take (i := 8) (oi := _) (v := ?_) rfl (by kernel_rfl) (by kernel_rfl) (by kernel_rfl) (fun _ _ _ h => h) (Or.inl ⟨by rfl, ?_⟩) (by assumption) ?_
              rotate_left 1
              · (intro wy hSw; (try dsimp only at hSw); go_simp; try with_reducible rfl)
              (try simp only [Act.put])
              refine wpAnyH_take (i := 9) (oi := _) (v := ?_) rfl (by kernel_rfl) (by kernel_rfl) (by kernel_rfl) (fun _ _ _ h => h) (Or.inl ⟨by rfl, ?_⟩) (by assumption) ?_
              rotate_left 1
              · (intro wy hSw; (try dsimp only at hSw); go_simp; try with_reducible rfl)
              (try simp only [Act.put])
              refine wpAnyH_take (i := 10) (oi := _) (v := ?_) rfl (by kernel_rfl) (by kernel_rfl) (by kernel_rfl) (fun _ _ _ h => h) (Or.inl ⟨by rfl, ?_⟩) (by assumption) ?_
              rotate_left 1
              · (intro wy hSw; (try dsimp only at hSw); go_simp; try with_reducible rfl)
              (try simp only [Act.put])
              refine wpAnyH_take (i := 11) (oi := _) (v := ?_) rfl (by kernel_rfl) (by kernel_rfl) (by kernel_rfl) (fun _ _ _ h => h) (Or.inl ⟨by rfl, ?_⟩) (by assumption) ?_
              rotate_left 1
              · (intro wy hSw; (try dsimp only at hSw); go_simp; try with_reducible rfl)
              (try simp only [Act.put])
              refine wpAnyH_take (i := 12) (oi := _) (v := ?_) rfl (by kernel_rfl) (by kernel_rfl) (by kernel_rfl) (fun _ _ _ h => h) (Or.inl ⟨by rfl, ?_⟩) (by assumption) ?_
              rotate_left 1
              · (intro wy hSw; (try dsimp only at hSw); go_simp; try with_reducible rfl)
              (try simp only [Act.put])
              refine wpAnyH_take (i := 13) (oi := _) (v := ?_) rfl (by kernel_rfl) (by kernel_rfl) (by kernel_rfl) (fun _ _ _ h => h) (Or.inl ⟨by rfl, ?_⟩) (by assumption) ?_
              rotate_left 1
              · (intro wy hSw; (try dsimp only at hSw); go_simp; try with_reducible rfl)
              (try simp only [Act.put])
              refine wpAnyH_take (i := 14) (oi := _) (v := ?_) rfl (by kernel_rfl) (by kernel_rfl) (by kernel_rfl) (fun _ _ _ h => h) (Or.inl ⟨by rfl, ?_⟩) (by assumption) ?_
              rotate_left 1
              · (intro wy hSw; (try dsimp only at hSw); go_simp; try with_reducible rfl)
              (try simp only [Act.put])
              clear HFi HRe HAn HRa HQ HL H HI1 C1 B0 B15 B16 B18 l0 l2 l3 lr l6 l7 l8 l9 l10 lrr
              apply by_final
              · intro final
                refine wpAnyH_ready (rs := [7, 16, 17]) (by kernel_rfl) (by simp) ?_
                refine AllReadyH.cons (o := _) rfl (fun K9 hK9 => ?_) (AllReadyH.cons (o := _) rfl (fun K9 hK9 => ?_) (AllReadyH.cons (o := _) rfl (fun K9 hK9 => ?_) (AllReadyH.nil)))
                · go_simp
                  refine (HA2 _ (by first | exact hbz | exact hbz.drew)).mono ?_
                  rintro r wn ⟨SA, ca, ila, rfl, hila, hsa, hfa, hbn0⟩
                  (try dsimp only)
                  (try simp only [heap_drew] at hfa)
                  (try have na20 := fresh_ne h20 hfa)
                  (try have na21 := fresh_ne h21 hfa)
                  clear hfa
                  have hbn : Below wz.heap.size wz wn := by first | exact hbn0 | exact ((Below.refl _ wz).drew).trans hbn0
                  replace hbz := hbz.trans (hbn.mono hbz.size)
                  (try replace hsa := hsa.below hbn)
                  (try replace hsb := hsb.below hbn)
                  (try replace h20 := blk_below h20 hbn)
                  (try replace h21 := blk_below h21 hbn)
                  clear hbn0 hbn
                  obtain ⟨wz, rfl⟩ : ∃ x, x = wn := ⟨_, rfl⟩
                  refine hK9.out _ _ (by intro b i; exact later hbz b) (fun hHeld => ?_)
                  clear hK9 K9
                  (try simp only [Act.put])
                  refine wpAnyH_ready (rs := [15, 16, 17]) (by kernel_rfl) (by simp) ?_
                  refine AllReadyH.cons (o := _) rfl (fun K9 hK9 => ?_) (AllReadyH.cons (o := _) rfl (fun K9 hK9 => ?_) (AllReadyH.cons (o := _) rfl (fun K9 hK9 => ?_) (AllReadyH.nil)))
                  · go_simp
                    refine (HR2 _ (by first | exact hbz | exact hbz.drew)).mono ?_
                    rintro r wn ⟨SB, cb, ilb, rfl, hilb, hsb, hfb, hbn0⟩
                    (try dsimp only)
                    (try simp only [heap_drew] at hfb)
                    (try have nb20 := fresh_ne h20 hfb)
                    (try have nb21 := fresh_ne h21 hfb)
                    clear hfb
                    have hbn : Below wz.heap.size wz wn := by first | exact hbn0 | exact ((Below.refl _ wz).drew).trans hbn0
                    replace hbz := hbz.trans (hbn.mono hbz.size)
                    (try replace hsa := hsa.below hbn)
                    (try replace hsb := hsb.below hbn)
                    (try replace h20 := blk_below h20 hbn)
                    (try replace h21 := blk_below h21 hbn)
                    clear hbn0 hbn
                    obtain ⟨wz, rfl⟩ : ∃ x, x = wn := ⟨_, rfl⟩
                    refine hK9.out _ _ (by intro b i; exact later hbz b) (fun hHeld => ?_)
                    clear hK9 K9
                    (try simp only [Act.put])
                    refine wpAnyH_ready (rs := [16, 17]) (by kernel_rfl) (by simp) ?_
                    refine AllReadyH.cons (o := _) rfl (fun K9 hK9 => ?_) (AllReadyH.cons (o := _) rfl (fun K9 hK9 => ?_) (AllReadyH.nil))
                    · go_simp
                      first | (obtain ⟨wn, hwx⟩ : ∃ x, x = (wz.alloc (.cells #[.int .i64 0, .int .i64 0, .int .u64 0, .int .i64 0, .bool false, .bool false, .int .i64 0, .slice none 0 0] 67)).drew := ⟨_, rfl⟩; rw [← hwx]) | (obtain ⟨wn, hwx⟩ : ∃ x, x = wz.alloc (.cells #[.int .i64 0, .int .i64 0, .int .u64 0, .int .i64 0, .bool false, .bool false, .int .i64 0, .slice none 0 0] 67) := ⟨_, rfl⟩; rw [← hwx])
                      have hwn : wn.heap[wz.heap.size]? = some (.cells #[.int .i64 0, .int .i64 0, .int .u64 0, .int .i64 0, .bool false, .bool false, .int .i64 0, .slice none 0 0] 67 (0, 0)) := by rw [hwx]; exact heap_alloc_new _ _
                      have hbn0 : Below wz.heap.size wz wn := by rw [hwx]; exact (by repeat (first | with_reducible exact Below.refl _ _ | (with_reducible refine Below.drew ?_) | (with_reducible refine below_drewN ?_ _) | (with_reducible refine Below.alloc ?_ ?_ _; rotate_left; (first | omega | (simp <;> omega))) | (with_reducible refine Below.setCell ?_ ?_ _; rotate_left; (first | omega | (simp <;> omega)))))
                      clear hwx
                      have hz20 : w10.heap.size ≤ wz.heap.size := hbz.size
                      (try have na20 := slAt_ne_new hsa)
                      (try have nb20 := slAt_ne_new hsb)
                      (try have hne := ne_new h21)
                      obtain ⟨g20, hg⟩ : ∃ g, g = wz.heap.size := ⟨_, rfl⟩
                      have h20 := hwn
                      clear hwn
                      rw [← hg] at h20 hz20 ⊢
                      (try rw [← hg] at na20)
                      (try rw [← hg] at nb20)
                      (try rw [← hg] at hne)
                      clear hg
                      have hbn : Below wz.heap.size wz wn := by first | exact hbn0 | exact ((Below.refl _ wz).drew).trans hbn0
                      replace hbz := hbz.trans (hbn.mono hbz.size)
                      (try replace hsa := hsa.below hbn)
                      (try replace hsb := hsb.below hbn)
                      (try replace h20 := blk_below h20 hbn)
                      (try replace h21 := blk_below h21 hbn)
                      clear hbn0 hbn
                      obtain ⟨wz, rfl⟩ : ∃ x, x = wn := ⟨_, rfl⟩
                      refine hK9.out _ _ (by intro b i; exact later hbz b) (fun hHeld => ?_)
                      clear hK9 K9
                      (try simp only [Act.put])
                      refine wpAnyH_ready (rs := [17]) (by kernel_rfl) (by simp) ?_
                      refine AllReadyH.cons (o := _) rfl (fun K9 hK9 => ?_) AllReadyH.nil
                      go_simp
                      first | (obtain ⟨wn, hwx⟩ : ∃ x, x = (wz.alloc (.cells #[.int .i64 0, .int .i64 0, .int .u64 0, .int .i64 0, .bool false, .bool false, .int .i64 0, .slice none 0 0] 67)).drew := ⟨_, rfl⟩; rw [← hwx]) | (obtain ⟨wn, hwx⟩ : ∃ x, x = wz.alloc (.cells #[.int .i64 0, .int .i64 0, .int .u64 0, .int .i64 0, .bool false, .bool false, .int .i64 0, .slice none 0 0] 67) := ⟨_, rfl⟩; rw [← hwx])
                      have hwn : wn.heap[wz.heap.size]? = some (.cells #[.int .i64 0, .int .i64 0, .int .u64 0, .int .i64 0, .bool false, .bool false, .int .i64 0, .slice none 0 0] 67 (0, 0)) := by rw [hwx]; exact heap_alloc_new _ _
                      have hbn0 : Below wz.heap.size wz wn := by rw [hwx]; exact (by repeat (first | with_reducible exact Below.refl _ _ | (with_reducible refine Below.drew ?_) | (with_reducible refine below_drewN ?_ _) | (with_reducible refine Below.alloc ?_ ?_ _; rotate_left; (first | omega | (simp <;> omega))) | (with_reducible refine Below.setCell ?_ ?_ _; rotate_left; (first | omega | (simp <;> omega)))))
                      clear hwx
                      have hz21 : w10.heap.size ≤ wz.heap.size := hbz.size
                      (try have na21 := slAt_ne_new hsa)
                      (try have nb21 := slAt_ne_new hsb)
                      (try have hne := (ne_new h20).symm)
                      obtain ⟨g21, hg⟩ : ∃ g, g = wz.heap.size := ⟨_, rfl⟩
                      have h21 := hwn
                      clear hwn
                      rw [← hg] at h21 hz21 ⊢
                      (try rw [← hg] at na21)
                      (try rw [← hg] at nb21)
                      (try rw [← hg] at hne)
                      clear hg
                      have hbn : Below wz.heap.size wz wn := by first | exact hbn0 | exact ((Below.refl _ wz).drew).trans hbn0
                      replace hbz := hbz.trans (hbn.mono hbz.size)
                      (try replace hsa := hsa.below hbn)
                      (try replace hsb := hsb.below hbn)
                      (try replace h20 := blk_below h20 hbn)
                      (try replace h21 := blk_below h21 hbn)
                      clear hbn0 hbn
                      obtain ⟨wz, rfl⟩ : ∃ x, x = wn := ⟨_, rfl⟩
                      refine hK9.out _ _ (by intro b i; exact later hbz b) (fun hHeld => ?_)
                      clear hK9 K9
                      (try simp only [Act.put])
                      obtain rfl : ila = ilb := hila.out.trans hilb.out.symm
                      refine wpAnyH_cast (l' := #[true, true, true, true, true, true, true, true, true, true, true, true, true, true, true, true, true, true, false, false]) (by kernel_rfl) ?_
                      clear hilb hHeld
                      revert hila
                      revert hne
                      revert hbz
                      revert hsa
                      revert hsb
                      revert h20
                      revert h21
                      revert hz20
                      revert hz21
                      revert na20
                      revert na21
                      revert nb20
                      revert nb21
                      revert g20
                      revert g21
                      revert SA
                      revert SB
                      revert ca
                      revert cb
                      revert ila
                      revert wz
                      exact final
                    · go_simp
                      first | (obtain ⟨wn, hwx⟩ : ∃ x, x = (wz.alloc (.cells #[.int .i64 0, .int .i64 0, .int .u64 0, .int .i64 0, .bool false, .bool false, .int .i64 0, .slice none 0 0] 67)).drew := ⟨_, rfl⟩; rw [← hwx]) | (obtain ⟨wn, hwx⟩ : ∃ x, x = wz.alloc (.cells #[.int .i64 0, .int .i64 0, .int .u64 0, .int .i64 0, .bool false, .bool false, .int .i64 0, .slice none 0 0] 67) := ⟨_, rfl⟩; rw [← hwx])
                      have hwn : wn.heap[wz.heap.size]? = some (.cells #[.int .i64 0, .int .i64 0, .int .u64 0, .int .i64 0, .bool false, .bool false, .int .i64 0, .slice none 0 0] 67 (0, 0)) := by rw [hwx]; exact heap_alloc_new _ _
                      have hbn0 : Below wz.heap.size wz wn := by rw [hwx]; exact (by repeat (first | with_reducible exact Below.refl _ _ | (with_reducible refine Below.drew ?_) | (with_reducible refine below_drewN ?_ _) | (with_reducible refine Below.alloc ?_ ?_ _; rotate_left; (first | omega | (simp <;> omega))) | (with_reducible refine Below.setCell ?_ ?_ _; rotate_left; (first | omega | (simp <;> omega)))))
                      clear hwx
                      have hz21 : w10.heap.size ≤ wz.heap.size := hbz.size
                      (try have na21 := slAt_ne_new hsa)
                      (try have nb21 := slAt_ne_new hsb)
                      (try have hne := (ne_new h20).symm)
                      obtain ⟨g21, hg⟩ : ∃ g, g = wz.heap.size := ⟨_, rfl⟩
                      have h21 := hwn
                      clear hwn
                      rw [← hg] at h21 hz21 ⊢
                      (try rw [← hg] at na21)
                      (try rw [← hg] at nb21)
                      (try rw [← hg] at hne)
                      clear hg
                      have hbn : Below wz.heap.size wz wn := by first | exact hbn0 | exact ((Below.refl _ wz).drew).trans hbn0
                      replace hbz := hbz.trans (hbn.mono hbz.size)
                      (try replace hsa := hsa.below hbn)
                      (try replace hsb := hsb.below hbn)
                      (try replace h20 := blk_below h20 hbn)
                      (try replace h21 := blk_below h21 hbn)
                      clear hbn0 hbn
                      obtain ⟨wz, rfl⟩ : ∃ x, x = wn := ⟨_, rfl⟩
                      refine hK9.out _ _ (by intro b i; exact later hbz b) (fun hHeld => ?_)
                      clear hK9 K9
                      (try simp only [Act.put])
                      refine wpAnyH_ready (rs := [16]) (by kernel_rfl) (by simp) ?_
                      refine AllReadyH.cons (o := _) rfl (fun K9 hK9 => ?_) AllReadyH.nil
                      go_simp
                      first | (obtain ⟨wn, hwx⟩ : ∃ x, x = (wz.alloc (.cells #[.int .i64 0, .int .i64 0, .int .u64 0, .int .i64 0, .bool false, .bool false, .int .i64 0, .slice none 0 0] 67)).drew := ⟨_, rfl⟩; rw [← hwx]) | (obtain ⟨wn, hwx⟩ : ∃ x, x = wz.alloc (.cells #[.int .i64 0, .int .i64 0, .int .u64 0, .int .i64 0, .bool false, .bool false, .int .i64 0, .slice none 0 0] 67) := ⟨_, rfl⟩; rw [← hwx])
                      have hwn : wn.heap[wz.heap.size]? = some (.cells #[.int .i64 0, .int .i64 0, .int .u64 0, .int .i64 0, .bool false, .bool false, .int .i64 0, .slice none 0 0] 67 (0, 0)) := by rw [hwx]; exact heap_alloc_new _ _
                      have hbn0 : Below wz.heap.size wz wn := by rw [hwx]; exact (by repeat (first | with_reducible exact Below.refl _ _ | (with_reducible refine Below.drew ?_) | (with_reducible refine below_drewN ?_ _) | (with_reducible refine Below.alloc ?_ ?_ _; rotate_left; (first | omega | (simp <;> omega))) | (with_reducible refine Below.setCell ?_ ?_ _; rotate_left; (first | omega | (simp <;> omega)))))
                      clear hwx
                      have hz20 : w10.heap.size ≤ wz.heap.size := hbz.size
                      (try have na20 := slAt_ne_new hsa)
                      (try have nb20 := slAt_ne_new hsb)
                      (try have hne := ne_new h21)
                      obtain ⟨g20, hg⟩ : ∃ g, g = wz.heap.size := ⟨_, rfl⟩
                      have h20 := hwn
                      clear hwn
                      rw [← hg] at h20 hz20 ⊢
                      (try rw [← hg] at na20)
                      (try rw [← hg] at nb20)
                      (try rw [← hg] at hne)
                      clear hg
                      have hbn : Below wz.heap.size wz wn := by first | exact hbn0 | exact ((Below.refl _ wz).drew).trans hbn0
                      replace hbz := hbz.trans (hbn.mono hbz.size)
                      (try replace hsa := hsa.below hbn)
                      (try replace hsb := hsb.below hbn)
                      (try replace h20 := blk_below h20 hbn)
                      (try replace h21 := blk_below h21 hbn)
                      clear hbn0 hbn
                      obtain ⟨wz, rfl⟩ : ∃ x, x = wn := ⟨_, rfl⟩
                      refine hK9.out _ _ (by intro b i; exact later hbz b) (fun hHeld => ?_)
                      clear hK9 K9
                      (try simp only [Act.put])
                      obtain rfl : ila = ilb := hila.out.trans hilb.out.symm
                      refine wpAnyH_cast (l' := #[true, true, true, true, true, true, true, true, true, true, true, true, true, true, true, true, true, true, false, false]) (by kernel_rfl) ?_
                      clear hilb hHeld
                      revert hila
                      revert hne
                      revert hbz
                      revert hsa
                      revert hsb
                      revert h20
                      revert h21
                      revert hz20
                      revert hz21
                      revert na20
                      revert na21
                      revert nb20
                      revert nb21
                      revert g20
                      revert g21
                      revert SA
                      revert SB
                      revert ca
                      revert cb
                      revert ila
                      revert wz
                      exact final
                  · go_simp
                    first | (obtain ⟨wn, hwx⟩ : ∃ x, x = (wz.alloc (.cells #[.int .i64 0, .int .i64 0, .int .u64 0, .int .i64 0, .bool false, .bool false, .int .i64 0, .slice none 0 0] 67)).drew := ⟨_, rfl⟩; rw [← hwx]) | (obtain ⟨wn, hwx⟩ : ∃ x, x = wz.alloc (.cells #[.int .i64 0, .int .i64 0, .int .u64 0, .int .i64 0, .bool false, .bool false, .int .i64 0, .slice none 0 0] 67) := ⟨_, rfl⟩; rw [← hwx])
                    have hwn : wn.heap[wz.heap.size]? = some (.cells #[.int .i64 0, .int .i64 0, .int .u64 0, .int .i64 0, .bool false, .bool false, .int .i64 0, .slice none 0 0] 67 (0, 0)) := by rw [hwx]; exact heap_alloc_new _ _
                    have hbn0 : Below wz.heap.size wz wn := by rw [hwx]; exact (by repeat (first | with_reducible exact Below.refl _ _ | (with_reducible refine Below.drew ?_) | (with_reducible refine below_drewN ?_ _) | (with_reducible refine Below.alloc ?_ ?_ _; rotate_left; (first | omega | (simp <;> omega))) | (with_reducible refine Below.setCell ?_ ?_ _; rotate_left; (first | omega | (simp <;> omega)))))
                    clear hwx
                    have hz20 : w10.heap.size ≤ wz.heap.size := hbz.size
                    (try have na20 := slAt_ne_new hsa)
                    (try have nb20 := slAt_ne_new hsb)
                    (try have hne := ne_new h21)
                    obtain ⟨g20, hg⟩ : ∃ g, g = wz.heap.size := ⟨_, rfl⟩
                    have h20 := hwn
                    clear hwn
                    rw [← hg] at h20 hz20 ⊢
                    (try rw [← hg] at na20)
                    (try rw [← hg] at nb20)
                    (try rw [← hg] at hne)
                    clear hg
                    have hbn : Below wz.heap.size wz wn := by first | exact hbn0 | exact ((Below.refl _ wz).drew).trans hbn0
                    replace hbz := hbz.trans (hbn.mono hbz.size)
                    (try replace hsa := hsa.below hbn)
                    (try replace hsb := hsb.below hbn)
                    (try replace h20 := blk_below h20 hbn)
                    (try replace h21 := blk_below h21 hbn)
                    clear hbn0 hbn
                    obtain ⟨wz, rfl⟩ : ∃ x, x = wn := ⟨_, rfl⟩
                    refine hK9.out _ _ (by intro b i; exact later hbz b) (fun hHeld => ?_)
                    clear hK9 K9
                    (try simp only [Act.put])
                    refine wpAnyH_ready (rs := [15, 17]) (by kernel_rfl) (by simp) ?_
                    refine AllReadyH.cons (o := _) rfl (fun K9 hK9 => ?_) (AllReadyH.cons (o := _) rfl (fun K9 hK9 => ?_) (AllReadyH.nil))
                    · go_simp
                      refine (HR2 _ (by first | exact hbz | exact hbz.drew)).mono ?_
                      rintro r wn ⟨SB, cb, ilb, rfl, hilb, hsb, hfb, hbn0⟩
                      (try dsimp only)
                      (try simp only [heap_drew] at hfb)
                      (try have nb20 := fresh_ne h20 hfb)
                      (try have nb21 := fresh_ne h21 hfb)
                      clear hfb
                      have hbn : Below wz.heap.size wz wn := by first | exact hbn0 | exact ((Below.refl _ wz).drew).trans hbn0
                      replace hbz := hbz.trans (hbn.mono hbz.size)
                      (try replace hsa := hsa.below hbn)
                      (try replace hsb := hsb.below hbn)
                      (try replace h20 := blk_below h20 hbn)
                      (try replace h21 := blk_below h21 hbn)
                      clear hbn0 hbn
                      obtain ⟨wz, rfl⟩ : ∃ x, x = wn := ⟨_, rfl⟩
                      refine hK9.out _ _ (by intro b i; exact later hbz b) (fun hHeld => ?_)
                      clear hK9 K9
                      (try simp only [Act.put])
                      refine wpAnyH_ready (rs := [17]) (by kernel_rfl) (by simp) ?_
                      refine AllReadyH.cons (o := _) rfl (fun K9 hK9 => ?_) AllReadyH.nil
                      go_simp
                      first | (obtain ⟨wn, hwx⟩ : ∃ x, x = (wz.alloc (.cells #[.int .i64 0, .int .i64 0, .int .u64 0, .int .i64 0, .bool false, .bool false, .int .i64 0, .slice none 0 0] 67)).drew := ⟨_, rfl⟩; rw [← hwx]) | (obtain ⟨wn, hwx⟩ : ∃ x, x = wz.alloc (.cells #[.int .i64 0, .int .i64 0, .int .u64 0, .int .i64 0, .bool false, .bool false, .int .i64 0, .slice none 0 0] 67) := ⟨_, rfl⟩; rw [← hwx])
                      have hwn : wn.heap[wz.heap.size]? = some (.cells #[.int .i64 0, .int .i64 0, .int .u64 0, .int .i64 0, .bool false, .bool false, .int .i64 0, .slice none 0 0] 67 (0, 0)) := by rw [hwx]; exact heap_alloc_new _ _
                      have hbn0 : Below wz.heap.size wz wn := by rw [hwx]; exact (by repeat (first | with_reducible exact Below.refl _ _ | (with_reducible refine Below.drew ?_) | (with_reducible refine below_drewN ?_ _) | (with_reducible refine Below.alloc ?_ ?_ _; rotate_left; (first | omega | (simp <;> omega))) | (with_reducible refine Below.setCell ?_ ?_ _; rotate_left; (first | omega | (simp <;> omega)))))
                      clear hwx
                      have hz21 : w10.heap.size ≤ wz.heap.size := hbz.size
                      (try have na21 := slAt_ne_new hsa)
                      (try have nb21 := slAt_ne_new hsb)
                      (try have hne := (ne_new h20).symm)
                      obtain ⟨g21, hg⟩ : ∃ g, g = wz.heap.size := ⟨_, rfl⟩
                      have h21 := hwn
                      clear hwn
                      rw [← hg] at h21 hz21 ⊢
                      (try rw [← hg] at na21)
                      (try rw [← hg] at nb21)
                      (try rw [← hg] at hne)
                      clear hg
                      have hbn : Below wz.heap.size wz wn := by first | exact hbn0 | exact ((Below.refl _ wz).drew).trans hbn0
                      replace hbz := hbz.trans (hbn.mono hbz.size)
                      (try replace hsa := hsa.below hbn)
                      (try replace hsb := hsb.below hbn)
                      (try replace h20 := blk_below h20 hbn)
                      (try replace h21 := blk_below h21 hbn)
                      clear hbn0 hbn
                      obtain ⟨wz, rfl⟩ : ∃ x, x = wn := ⟨_, rfl⟩
                      refine hK9.out _ _ (by intro b i; exact later hbz b) (fun hHeld => ?_)
                      clear hK9 K9
                      (try simp only [Act.put])
                      obtain rfl : ila = ilb := hila.out.trans hilb.out.symm
                      refine wpAnyH_cast (l' := #[true, true, true, true, true, true, true, true, true, true, true, true, true, true, true, true, true, true, false, false]) (by kernel_rfl) ?_
                      clear hilb hHeld
                      revert hila
                      revert hne
                      revert hbz
                      revert hsa
                      revert hsb
                      revert h20
                      revert h21
                      revert hz20
                      revert hz21
                      revert na20
                      revert na21
                      revert nb20
                      revert nb21
                      revert g20
                      revert g21
                      revert SA
                      revert SB
                      revert ca
                      revert cb
                      revert ila
                      revert wz
                      exact final
                    · go_simp
                      first | (obtain ⟨wn, hwx⟩ : ∃ x, x = (wz.alloc (.cells #[.int .i64 0, .int .i64 0, .int .u64 0, .int .i64 0, .bool false, .bool false, .int .i64 0, .slice none 0 0] 67)).drew := ⟨_, rfl⟩; rw [← hwx]) | (obtain ⟨wn, hwx⟩ : ∃ x, x = wz.alloc (.cells #[.int .i64 0, .int .i64 0, .int .u64 0, .int .i64 0, .bool false, .bool false, .int .i64 0, .slice none 0 0] 67) := ⟨_, rfl⟩; rw [← hwx])
                      have hwn : wn.heap[wz.heap.size]? = some (.cells #[.int .i64 0, .int .i64 0, .int .u64 0, .int .i64 0, .bool false, .bool false, .int .i64 0, .slice none 0 0] 67 (0, 0)) := by rw [hwx]; exact heap_alloc_new _ _
                      have hbn0 : Below wz.heap.size wz wn := by rw [hwx]; exact (by repeat (first | with_reducible exact Below.refl _ _ | (with_reducible refine Below.drew ?_) | (with_reducible refine below_drewN ?_ _) | (with_reducible refine Below.alloc ?_ ?_ _; rotate_left; (first | omega | (simp <;> omega))) | (with_reducible refine Below.setCell ?_ ?_ _; rotate_left; (first | omega | (simp <;> omega)))))
                      clear hwx
                      have hz21 : w10.heap.size ≤ wz.heap.size := hbz.size
                      (try have na21 := slAt_ne_new hsa)
                      (try have nb21 := slAt_ne_new hsb)
                      (try have hne := (ne_new h20).symm)
                      obtain ⟨g21, hg⟩ : ∃ g, g = wz.heap.size := ⟨_, rfl⟩
                      have h21 := hwn
                      clear hwn
                      rw [← hg] at h21 hz21 ⊢
                      (try rw [← hg] at na21)
                      (try rw [← hg] at nb21)
                      (try rw [← hg] at hne)
                      clear hg
                      have hbn : Below wz.heap.size wz wn := by first | exact hbn0 | exact ((Below.refl _ wz).drew).trans hbn0
                      replace hbz := hbz.trans (hbn.mono hbz.size)
                      (try replace hsa := hsa.below hbn)
                      (try replace hsb := hsb.below hbn)
                      (try replace h20 := blk_below h20 hbn)
                      (try replace h21 := blk_below h21 hbn)
                      clear hbn0 hbn
                      obtain ⟨wz, rfl⟩ : ∃ x, x = wn := ⟨_, rfl⟩
                      refine hK9.out _ _ (by intro b i; exact later hbz b) (fun hHeld => ?_)
                      clear hK9 K9
                      (try simp only [Act.put])
                      refine wpAnyH_ready (rs := [15]) (by kernel_rfl) (by simp) ?_
                      refine AllReadyH.cons (o := _) rfl (fun K9 hK9 => ?_) AllReadyH.nil
                      go_simp
                      refine (HR2 _ (by first | exact hbz | exact hbz.drew)).mono ?_
                      rintro r wn ⟨SB, cb, ilb, rfl, hilb, hsb, hfb, hbn0⟩
                      (try dsimp only)
                      (try simp only [heap_drew] at hfb)
                      (try have nb20 := fresh_ne h20 hfb)
                      (try have nb21 := fresh_ne h21 hfb)
                      clear hfb
                      have hbn : Below wz.heap.size wz wn := by first | exact hbn0 | exact ((Below.refl _ wz).drew).trans hbn0
                      replace hbz := hbz.trans (hbn.mono hbz.size)
                      (try replace hsa := hsa.below hbn)
                      (try replace hsb := hsb.below hbn)
                      (try replace h20 := blk_below h20 hbn)
                      (try replace h21 := blk_below h21 hbn)
                      clear hbn0 hbn
                      obtain ⟨wz, rfl⟩ : ∃ x, x = wn := ⟨_, rfl⟩
                      refine hK9.out _ _ (by intro b i; exact later hbz b) (fun hHeld => ?_)
                      clear hK9 K9
                      (try simp only [Act.put])
                      obtain rfl : ila = ilb := hila.out.trans hilb.out.symm
                      refine wpAnyH_cast (l' := #[true, true, true, true, true, true, true, true, true, true, true, true, true, true, true, true, true, true, false, false]) (by kernel_rfl) ?_
                      clear hilb hHeld
                      revert hila
                      revert hne
                      revert hbz
                      revert hsa
                      revert hsb
                      revert h20
                      revert h21
                      revert hz20
                      revert hz21
                      revert na20
                      revert na21
                      revert nb20
                      revert nb21
                      revert g20
                      revert g21
                      revert SA
                      revert SB
                      revert ca
                      revert cb
                      revert ila
                      revert wz
                      exact final
                  · go_simp
                    first | (obtain ⟨wn, hwx⟩ : ∃ x, x = (wz.alloc (.cells #[.int .i64 0, .int .i64 0, .int .u64 0, .int .i64 0, .bool false, .bool false, .int .i64 0, .slice none 0 0] 67)).drew := ⟨_, rfl⟩; rw [← hwx]) | (obtain ⟨wn, hwx⟩ : ∃ x, x = wz.alloc (.cells #[.int .i64 0, .int .i64 0, .int .u64 0, .int .i64 0, .bool false, .bool false, .int .i64 0, .slice none 0 0] 67) := ⟨_, rfl⟩; rw [← hwx])
                    have hwn : wn.heap[wz.heap.size]? = some (.cells #[.int .i64 0, .int .i64 0, .int .u64 0, .int .i64 0, .bool false, .bool false, .int .i64 0, .slice none 0 0] 67 (0, 0)) := by rw [hwx]; exact heap_alloc_new _ _
                    have hbn0 : Below wz.heap.size wz wn := by rw [hwx]; exact (by repeat (first | with_reducible exact Below.refl _ _ | (with_reducible refine Below.drew ?_) | (with_reducible refine below_drewN ?_ _) | (with_reducible refine Below.alloc ?_ ?_ _; rotate_left; (first | omega | (simp <;> omega))) | (with_reducible refine Below.setCell ?_ ?_ _; rotate_left; (first | omega | (simp <;> omega)))))
                    clear hwx
                    have hz21 : w10.heap.size ≤ wz.heap.size := hbz.size
                    (try have na21 := slAt_ne_new hsa)
                    (try have nb21 := slAt_ne_new hsb)
                    (try have hne := (ne_new h20).symm)
                    obtain ⟨g21, hg⟩ : ∃ g, g = wz.heap.size := ⟨_, rfl⟩
                    have h21 := hwn
                    clear hwn
                    rw [← hg] at h21 hz21 ⊢
                    (try rw [← hg] at na21)
                    (try rw [← hg] at nb21)
                    (try rw [← hg] at hne)
                    clear hg
                    have hbn : Below wz.heap.size wz wn := by first | exact hbn0 | exact ((Below.refl _ wz).drew).trans hbn0
                    replace hbz := hbz.trans (hbn.mono hbz.size)
                    (try replace hsa := hsa.below hbn)
                    (try replace hsb := hsb.below hbn)
                    (try replace h20 := blk_below h20 hbn)
                    (try replace h21 := blk_below h21 hbn)
                    clear hbn0 hbn
                    obtain ⟨wz, rfl⟩ : ∃ x, x = wn := ⟨_, rfl⟩
                    refine hK9.out _ _ (by intro b i; exact later hbz b) (fun hHeld => ?_)
                    clear hK9 K9
                    (try simp only [Act.put])
                    refine wpAnyH_ready (rs := [15, 16]) (by kernel_rfl) (by simp) ?_
                    refine AllReadyH.cons (o := _) rfl (fun K9 hK9 => ?_) (AllReadyH.cons (o := _) rfl (fun K9 hK9 => ?_) (AllReadyH.nil))
                    · go_simp
                      refine (HR2 _ (by first | exact hbz | exact hbz.drew)).mono ?_
                      rintro r wn ⟨SB, cb, ilb, rfl, hilb, hsb, hfb, hbn0⟩
                      (try dsimp only)
                      (try simp only [heap_drew] at hfb)
                      (try have nb20 := fresh_ne h20 hfb)
                      (try have nb21 := fresh_ne h21 hfb)
                      clear hfb
                      have hbn : Below wz.heap.size wz wn := by first | exact hbn0 | exact ((Below.refl _ wz).drew).trans hbn0
                      replace hbz := hbz.trans (hbn.mono hbz.size)
                      (try replace hsa := hsa.below hbn)
                      (try replace hsb := hsb.below hbn)
                      (try replace h20 := blk_below h20 hbn)
                      (try replace h21 := blk_below h21 hbn)
                      clear hbn0 hbn
                      obtain ⟨wz, rfl⟩ : ∃ x, x = wn := ⟨_, rfl⟩
                      refine hK9.out _ _ (by intro b i; exact later hbz b) (fun hHeld => ?_)
                      clear hK9 K9
                      (try simp only [Act.put])
                      refine wpAnyH_ready (rs := [16]) (by kernel_rfl) (by simp) ?_
                      refine AllReadyH.cons (o := _) rfl (fun K9 hK9 => ?_) AllReadyH.nil
                      go_simp
                      first | (obtain ⟨wn, hwx⟩ : ∃ x, x = (wz.alloc (.cells #[.int .i64 0, .int .i64 0, .int .u64 0, .int .i64 0, .bool false, .bool false, .int .i64 0, .slice none 0 0] 67)).drew := ⟨_, rfl⟩; rw [← hwx]) | (obtain ⟨wn, hwx⟩ : ∃ x, x = wz.alloc (.cells #[.int .i64 0, .int .i64 0, .int .u64 0, .int .i64 0, .bool false, .bool false, .int .i64 0, .slice none 0 0] 67) := ⟨_, rfl⟩; rw [← hwx])
                      have hwn : wn.heap[wz.heap.size]? = some (.cells #[.int .i64 0, .int .i64 0, .int .u64 0, .int .i64 0, .bool false, .bool false, .int .i64 0, .slice none 0 0] 67 (0, 0)) := by rw [hwx]; exact heap_alloc_new _ _
                      have hbn0 : Below wz.heap.size wz wn := by rw [hwx]; exact (by repeat (first | with_reducible exact Below.refl _ _ | (with_reducible refine Below.drew ?_) | (with_reducible refine below_drewN ?_ _) | (with_reducible refine Below.alloc ?_ ?_ _; rotate_left; (first | omega | (simp <;> omega))) | (with_reducible refine Below.setCell ?_ ?_ _; rotate_left; (first | omega | (simp <;> omega)))))
                      clear hwx
                      have hz20 : w10.heap.size ≤ wz.heap.size := hbz.size
                      (try have na20 := slAt_ne_new hsa)
                      (try have nb20 := slAt_ne_new hsb)
                      (try have hne := ne_new h21)
                      obtain ⟨g20, hg⟩ : ∃ g, g = wz.heap.size := ⟨_, rfl⟩
                      have h20 := hwn
                      clear hwn
                      rw [← hg] at h20 hz20 ⊢
                      (try rw [← hg] at na20)
                      (try rw [← hg] at nb20)
                      (try rw [← hg] at hne)
                      clear hg
                      have hbn : Below wz.heap.size wz wn := by first | exact hbn0 | exact ((Below.refl _ wz).drew).trans hbn0
                      replace hbz := hbz.trans (hbn.mono hbz.size)
                      (try replace hsa := hsa.below hbn)
                      (try replace hsb := hsb.below hbn)
                      (try replace h20 := blk_below h20 hbn)
                      (try replace h21 := blk_below h21 hbn)
                      clear hbn0 hbn
                      obtain ⟨wz, rfl⟩ : ∃ x, x = wn := ⟨_, rfl⟩
                      refine hK9.out _ _ (by intro b i; exact later hbz b) (fun hHeld => ?_)
                      clear hK9 K9
                      (try simp only [Act.put])
                      obtain rfl : ila = ilb := hila.out.trans hilb.out.symm
                      refine wpAnyH_cast (l' := #[true, true, true, true, true, true, true, true, true, true, true, true, true, true, true, true, true, true, false, false]) (by kernel_rfl) ?_
                      clear hilb hHeld
                      revert hila
                      revert hne
                      revert hbz
                      revert hsa
                      revert hsb
                      revert h20
                      revert h21
                      revert hz20
                      revert hz21
                      revert na20
                      revert na21
                      revert nb20
                      revert nb21
                      revert g20
                      revert g21
                      revert SA
                      revert SB
                      revert ca
                      revert cb
                      revert ila
                      revert wz
                      exact final
                    · go_simp
                      first | (obtain ⟨wn, hwx⟩ : ∃ x, x = (wz.alloc (.cells #[.int .i64 0, .int .i64 0, .int .u64 0, .int .i64 0, .bool false, .bool false, .int .i64 0, .slice none 0 0] 67)).drew := ⟨_, rfl⟩; rw [← hwx]) | (obtain ⟨wn, hwx⟩ : ∃ x, x = wz.alloc (.cells #[.int .i64 0, .int .i64 0, .int .u64 0, .int .i64 0, .bool false, .bool false, .int .i64 0, .slice none 0 0] 67) := ⟨_, rfl⟩; rw [← hwx])
                      have hwn : wn.heap[wz.heap.size]? = some (.cells #[.int .i64 0, .int .i64 0, .int .u64 0, .int .i64 0, .bool false, .bool false, .int .i64 0, .slice none 0 0] 67 (0, 0)) := by rw [hwx]; exact heap_alloc_new _ _
                      have hbn0 : Below wz.heap.size wz wn := by rw [hwx]; exact (by repeat (first | with_reducible exact Below.refl _ _ | (with_reducible refine Below.drew ?_) | (with_reducible refine below_drewN ?_ _) | (with_reducible refine Below.alloc ?_ ?_ _; rotate_left; (first | omega | (simp <;> omega))) | (with_reducible refine Below.setCell ?_ ?_ _; rotate_left; (first | omega | (simp <;> omega)))))
                      clear hwx
                      have hz20 : w10.heap.size ≤ wz.heap.size := hbz.size
                      (try have na20 := slAt_ne_new hsa)
                      (try have nb20 := slAt_ne_new hsb)
                      (try have hne := ne_new h21)
                      obtain ⟨g20, hg⟩ : ∃ g, g = wz.heap.size := ⟨_, rfl⟩
                      have h20 := hwn
                      clear hwn
                      rw [← hg] at h20 hz20 ⊢
                      (try rw [← hg] at na20)
                      (try rw [← hg] at nb20)
                      (try rw [← hg] at hne)
                      clear hg
                      have hbn : Below wz.heap.size wz wn := by first | exact hbn0 | exact ((Below.refl _ wz).drew).trans hbn0
                      replace hbz := hbz.trans (hbn.mono hbz.size)
                      (try replace hsa := hsa.below hbn)
                      (try replace hsb := hsb.below hbn)
                      (try replace h20 := blk_below h20 hbn)
                      (try replace h21 := blk_below h21 hbn)
                      clear hbn0 hbn
                      obtain ⟨wz, rfl⟩ : ∃ x, x = wn := ⟨_, rfl⟩
                      refine hK9.out _ _ (by intro b i; exact later hbz b) (fun hHeld => ?_)
                      clear hK9 K9
                      (try simp only [Act.put])
                      refine wpAnyH_ready (rs := [15]) (by kernel_rfl) (by simp) ?_
                      refine AllReadyH.cons (o := _) rfl (fun K9 hK9 => ?_) AllReadyH.nil
                      go_simp
                      refine (HR2 _ (by first | exact hbz | exact hbz.drew)).mono ?_
                      rintro r wn ⟨SB, cb, ilb, rfl, hilb, hsb, hfb, hbn0⟩
                      (try dsimp only)
                      (try simp only [heap_drew] at hfb)
                      (try have nb20 := fresh_ne h20 hfb)
                      (try have nb21 := fresh_ne h21 hfb)
                      clear hfb
                      have hbn : Below wz.heap.size wz wn := by first | exact hbn0 | exact ((Below.refl _ wz).drew).trans hbn0
                      replace hbz := hbz.trans (hbn.mono hbz.size)
                      (try replace hsa := hsa.below hbn)
                      (try replace hsb := hsb.below hbn)
                      (try replace h20 := blk_below h20 hbn)
                      (try replace h21 := blk_below h21 hbn)
                      clear hbn0 hbn
                      obtain ⟨wz, rfl⟩ : ∃ x, x = wn := ⟨_, rfl⟩
                      refine hK9.out _ _ (by intro b i; exact later hbz b) (fun hHeld => ?_)
                      clear hK9 K9
                      (try simp only [Act.put])
                      obtain rfl : ila = ilb := hila.out.trans hilb.out.symm
                      refine wpAnyH_cast (l' := #[true, true, true, true, true, true, true, true, true, true, true, true, true, true, true, true, true, true, false, false]) (by kernel_rfl) ?_
                      clear hilb hHeld
                      revert hila
                      revert hne
                      revert hbz
                      revert hsa
                      revert hsb
                      revert h20
                      revert h21
                      revert hz20
                      revert hz21
                      revert na20
                      revert na21
                      revert nb20
                      revert nb21
                      revert g20
                      revert g21
                      revert SA
                      revert SB
                      revert ca
                      revert cb
                      revert ila
                      revert wz
                      exact final
                · go_simp
                  first | (obtain ⟨wn, hwx⟩ : ∃ x, x = (wz.alloc (.cells #[.int .i64 0, .int .i64 0, .int .u64 0, .int .i64 0, .bool false, .bool false, .int .i64 0, .slice none 0 0] 67)).drew := ⟨_, rfl⟩; rw [← hwx]) | (obtain ⟨wn, hwx⟩ : ∃ x, x = wz.alloc (.cells #[.int .i64 0, .int .i64 0, .int .u64 0, .int .i64 0, .bool false, .bool false, .int .i64 0, .slice none 0 0] 67) := ⟨_, rfl⟩; rw [← hwx])
                  have hwn : wn.heap[wz.heap.size]? = some (.cells #[.int .i64 0, .int .i64 0, .int .u64 0, .int .i64 0, .bool false, .bool false, .int .i64 0, .slice none 0 0] 67 (0, 0)) := by rw [hwx]; exact heap_alloc_new _ _
                  have hbn0 : Below wz.heap.size wz wn := by rw [hwx]; exact (by repeat (first | with_reducible exact Below.refl _ _ | (with_reducible refine Below.drew ?_) | (with_reducible refine below_drewN ?_ _) | (with_reducible refine Below.alloc ?_ ?_ _; rotate_left; (first | omega | (simp <;> omega))) | (with_reducible refine Below.setCell ?_ ?_ _; rotate_left; (first | omega | (simp <;> omega)))))
                  clear hwx
                  have hz20 : w10.heap.size ≤ wz.heap.size := hbz.size
                  (try have na20 := slAt_ne_new hsa)
                  (try have nb20 := slAt_ne_new hsb)
                  (try have hne := ne_new h21)
                  obtain ⟨g20, hg⟩ : ∃ g, g = wz.heap.size := ⟨_, rfl⟩
                  have h20 := hwn
                  clear hwn
                  rw [← hg] at h20 hz20 ⊢
                  (try rw [← hg] at na20)
                  (try rw [← hg] at nb20)
                  (try rw [← hg] at hne)
                  clear hg
                  have hbn : Below wz.heap.size wz wn := by first | exact hbn0 | exact ((Below.refl _ wz).drew).trans hbn0
                  replace hbz := hbz.trans (hbn.mono hbz.size)
                  (try replace hsa := hsa.below hbn)
                  (try replace hsb := hsb.below hbn)
                  (try replace h20 := blk_below h20 hbn)
                  (try replace h21 := blk_below h21 hbn)
                  clear hbn0 hbn
                  obtain ⟨wz, rfl⟩ : ∃ x, x = wn := ⟨_, rfl⟩
                  refine hK9.out _ _ (by intro b i; exact later hbz b) (fun hHeld => ?_)
                  clear hK9 K9
                  (try simp only [Act.put])
                  refine wpAnyH_ready (rs := [7, 17]) (by kernel_rfl) (by simp) ?_
                  refine AllReadyH.cons (o := _) rfl (fun K9 hK9 => ?_) (AllReadyH.cons (o := _) rfl (fun K9 hK9 => ?_) (AllReadyH.nil))
                  · go_simp
                    refine (HA2 _ (by first | exact hbz | exact hbz.drew)).mono ?_
                    rintro r wn ⟨SA, ca, ila, rfl, hila, hsa, hfa, hbn0⟩
                    (try dsimp only)
                    (try simp only [heap_drew] at hfa)
                    (try have na20 := fresh_ne h20 hfa)
                    (try have na21 := fresh_ne h21 hfa)
                    clear hfa
                    have hbn : Below wz.heap.size wz wn := by first | exact hbn0 | exact ((Below.refl _ wz).drew).trans hbn0
                    replace hbz := hbz.trans (hbn.mono hbz.size)
                    (try replace hsa := hsa.below hbn)
                    (try replace hsb := hsb.below hbn)
                    (try replace h20 := blk_below h20 hbn)
                    (try replace h21 := blk_below h21 hbn)
                    clear hbn0 hbn
                    obtain ⟨wz, rfl⟩ : ∃ x, x = wn := ⟨_, rfl⟩
                    refine hK9.out _ _ (by intro b i; exact later hbz b) (fun hHeld => ?_)
                    clear hK9 K9
                    (try simp only [Act.put])
                    refine wpAnyH_ready (rs := [15, 17]) (by kernel_rfl) (by simp) ?_
                    refine AllReadyH.cons (o := _) rfl (fun K9 hK9 => ?_) (AllReadyH.cons (o := _) rfl (fun K9 hK9 => ?_) (AllReadyH.nil))
                    · go_simp
                      refine (HR2 _ (by first | exact hbz | exact hbz.drew)).mono ?_
                      rintro r wn ⟨SB, cb, ilb, rfl, hilb, hsb, hfb, hbn0⟩
                      (try dsimp only)
                      (try simp only [heap_drew] at hfb)
                      (try have nb20 := fresh_ne h20 hfb)
                      (try have nb21 := fresh_ne h21 hfb)
                      clear hfb
                      have hbn : Below wz.heap.size wz wn := by first | exact hbn0 | exact ((Below.refl _ wz).drew).trans hbn0
                      replace hbz := hbz.trans (hbn.mono hbz.size)
                      (try replace hsa := hsa.below hbn)
                      (try replace hsb := hsb.below hbn)
                      (try replace h20 := blk_below h20 hbn)
                      (try replace h21 := blk_below h21 hbn)
                      clear hbn0 hbn
                      obtain ⟨wz, rfl⟩ : ∃ x, x = wn := ⟨_, rfl⟩
                      refine hK9.out _ _ (by intro b i; exact later hbz b) (fun hHeld => ?_)
                      clear hK9 K9
                      (try simp only [Act.put])
                      refine wpAnyH_ready (rs := [17]) (by kernel_rfl) (by simp) ?_
                      refine AllReadyH.cons (o := _) rfl (fun K9 hK9 => ?_) AllReadyH.nil
                      go_simp
                      first | (obtain ⟨wn, hwx⟩ : ∃ x, x = (wz.alloc (.cells #[.int .i64 0, .int .i64 0, .int .u64 0, .int .i64 0, .bool false, .bool false, .int .i64 0, .slice none 0 0] 67)).drew := ⟨_, rfl⟩; rw [← hwx]) | (obtain ⟨wn, hwx⟩ : ∃ x, x = wz.alloc (.cells #[.int .i64 0, .int .i64 0, .int .u64 0, .int .i64 0, .bool false, .bool false, .int .i64 0, .slice none 0 0] 67) := ⟨_, rfl⟩; rw [← hwx])
                      have hwn : wn.heap[wz.heap.size]? = some (.cells #[.int .i64 0, .int .i64 0, .int .u64 0, .int .i64 0, .bool false, .bool false, .int .i64 0, .slice none 0 0] 67 (0, 0)) := by rw [hwx]; exact heap_alloc_new _ _
                      have hbn0 : Below wz.heap.size wz wn := by rw [hwx]; exact (by repeat (first | with_reducible exact Below.refl _ _ | (with_reducible refine Below.drew ?_) | (with_reducible refine below_drewN ?_ _) | (with_reducible refine Below.alloc ?_ ?_ _; rotate_left; (first | omega | (simp <;> omega))) | (with_reducible refine Below.setCell ?_ ?_ _; rotate_left; (first | omega | (simp <;> omega)))))
                      clear hwx
                      have hz21 : w10.heap.size ≤ wz.heap.size := hbz.size
                      (try have na21 := slAt_ne_new hsa)
                      (try have nb21 := slAt_ne_new hsb)
                      (try have hne := (ne_new h20).symm)
                      obtain ⟨g21, hg⟩ : ∃ g, g = wz.heap.size := ⟨_, rfl⟩
                      have h21 := hwn
                      clear hwn
                      rw [← hg] at h21 hz21 ⊢
                      (try rw [← hg] at na21)
                      (try rw [← hg] at nb21)
                      (try rw [← hg] at hne)
                      clear hg
                      have hbn : Below wz.heap.size wz wn := by first | exact hbn0 | exact ((Below.refl _ wz).drew).trans hbn0
                      replace hbz := hbz.trans (hbn.mono hbz.size)
                      (try replace hsa := hsa.below hbn)
                      (try replace hsb := hsb.below hbn)
                      (try replace h20 := blk_below h20 hbn)
                      (try replace h21 := blk_below h21 hbn)
                      clear hbn0 hbn
                      obtain ⟨wz, rfl⟩ : ∃ x, x = wn := ⟨_, rfl⟩
                      refine hK9.out _ _ (by intro b i; exact later hbz b) (fun hHeld => ?_)
                      clear hK9 K9
                      (try simp only [Act.put])
                      obtain rfl : ila = ilb := hila.out.trans hilb.out.symm
                      refine wpAnyH_cast (l' := #[true, true, true, true, true, true, true, true, true, true, true, true, true, true, true, true, true, true, false, false]) (by kernel_rfl) ?_
                      clear hilb hHeld
                      revert hila
                      revert hne
                      revert hbz
                      revert hsa
                      revert hsb
                      revert h20
                      revert h21
                      revert hz20
                      revert hz21
                      revert na20
                      revert na21
                      revert nb20
                      revert nb21
                      revert g20
                      revert g21
                      revert SA
                      revert SB
                      revert ca
                      revert cb
                      revert ila
                      revert wz
                      exact final
                    · go_simp
                      first | (obtain ⟨wn, hwx⟩ : ∃ x, x = (wz.alloc (.cells #[.int .i64 0, .int .i64 0, .int .u64 0, .int .i64 0, .bool false, .bool false, .int .i64 0, .slice none 0 0] 67)).drew := ⟨_, rfl⟩; rw [← hwx]) | (obtain ⟨wn, hwx⟩ : ∃ x, x = wz.alloc (.cells #[.int .i64 0, .int .i64 0, .int .u64 0, .int .i64 0, .bool false, .bool false, .int .i64 0, .slice none 0 0] 67) := ⟨_, rfl⟩; rw [← hwx])
                      have hwn : wn.heap[wz.heap.size]? = some (.cells #[.int .i64 0, .int .i64 0, .int .u64 0, .int .i64 0, .bool false, .bool false, .int .i64 0, .slice none 0 0] 67 (0, 0)) := by rw [hwx]; exact heap_alloc_new _ _
                      have hbn0 : Below wz.heap.size wz wn := by rw [hwx]; exact (by repeat (first | with_reducible exact Below.refl _ _ | (with_reducible refine Below.drew ?_) | (with_reducible refine below_drewN ?_ _) | (with_reducible refine Below.alloc ?_ ?_ _; rotate_left; (first | omega | (simp <;> omega))) | (with_reducible refine Below.setCell ?_ ?_ _; rotate_left; (first | omega | (simp <;> omega)))))
                      clear hwx
                      have hz21 : w10.heap.size ≤ wz.heap.size := hbz.size
                      (try have na21 := slAt_ne_new hsa)
                      (try have nb21 := slAt_ne_new hsb)
                      (try have hne := (ne_new h20).symm)
                      obtain ⟨g21, hg⟩ : ∃ g, g = wz.heap.size := ⟨_, rfl⟩
                      have h21 := hwn
                      clear hwn
                      rw [← hg] at h21 hz21 ⊢
                      (try rw [← hg] at na21)
                      (try rw [← hg] at nb21)
                      (try rw [← hg] at hne)
                      clear hg
                      have hbn : Below wz.heap.size wz wn := by first | exact hbn0 | exact ((Below.refl _ wz).drew).trans hbn0
                      replace hbz := hbz.trans (hbn.mono hbz.size)
                      (try replace hsa := hsa.below hbn)
                      (try replace hsb := hsb.below hbn)
                      (try replace h20 := blk_below h20 hbn)
                      (try replace h21 := blk_below h21 hbn)
                      clear hbn0 hbn
                      obtain ⟨wz, rfl⟩ : ∃ x, x = wn := ⟨_, rfl⟩
                      refine hK9.out _ _ (by intro b i; exact later hbz b) (fun hHeld => ?_)
                      clear hK9 K9
                      (try simp only [Act.put])
                      refine wpAnyH_ready (rs := [15]) (by kernel_rfl) (by simp) ?_
                      refine AllReadyH.cons (o := _) rfl (fun K9 hK9 => ?_) AllReadyH.nil
                      go_simp
                      refine (HR2 _ (by first | exact hbz | exact hbz.drew)).mono ?_
                      rintro r wn ⟨SB, cb, ilb, rfl, hilb, hsb, hfb, hbn0⟩
                      (try dsimp only)
                      (try simp only [heap_drew] at hfb)
                      (try have nb20 := fresh_ne h20 hfb)
                      (try have nb21 := fresh_ne h21 hfb)
                      clear hfb
                      have hbn : Below wz.heap.size wz wn := by first | exact hbn0 | exact ((Below.refl _ wz).drew).trans hbn0
                      replace hbz := hbz.trans (hbn.mono hbz.size)
                      (try replace hsa := hsa.below hbn)
                      (try replace hsb := hsb.below hbn)
                      (try replace h20 := blk_below h20 hbn)
                      (try replace h21 := blk_below h21 hbn)
                      clear hbn0 hbn
                      obtain ⟨wz, rfl⟩ : ∃ x, x = wn := ⟨_, rfl⟩
                      refine hK9.out _ _ (by intro b i; exact later hbz b) (fun hHeld => ?_)
                      clear hK9 K9
                      (try simp only [Act.put])
                      obtain rfl : ila = ilb := hila.out.trans hilb.out.symm
                      refine wpAnyH_cast (l' := #[true, true, true, true, true, true, true, true, true, true, true, true, true, true, true, true, true, true, false, false]) (by kernel_rfl) ?_
                      clear hilb hHeld
                      revert hila
                      revert hne
                      revert hbz
                      revert hsa
                      revert hsb
                      revert h20
                      revert h21
                      revert hz20
                      revert hz21
                      revert na20
                      revert na21
                      revert nb20
                      revert nb21
                      revert g20
                      revert g21
                      revert SA
                      revert SB
                      revert ca
                      revert cb
                      revert ila
                      revert wz
                      exact final
                  · go_simp
                    first | (obtain ⟨wn, hwx⟩ : ∃ x, x = (wz.alloc (.cells #[.int .i64 0, .int .i64 0, .int .u64 0, .int .i64 0, .bool false, .bool false, .int .i64 0, .slice none 0 0] 67)).drew := ⟨_, rfl⟩; rw [← hwx]) | (obtain ⟨wn, hwx⟩ : ∃ x, x = wz.alloc (.cells #[.int .i64 0, .int .i64 0, .int .u64 0, .int .i64 0, .bool false, .bool false, .int .i64 0, .slice none 0 0] 67) := ⟨_, rfl⟩; rw [← hwx])
                    have hwn : wn.heap[wz.heap.size]? = some (.cells #[.int .i64 0, .int .i64 0, .int .u64 0, .int .i64 0, .bool false, .bool false, .int .i64 0, .slice none 0 0] 67 (0, 0)) := by rw [hwx]; exact heap_alloc_new _ _
                    have hbn0 : Below wz.heap.size wz wn := by rw [hwx]; exact (by repeat (first | with_reducible exact Below.refl _ _ | (with_reducible refine Below.drew ?_) | (with_reducible refine below_drewN ?_ _) | (with_reducible refine Below.alloc ?_ ?_ _; rotate_left; (first | omega | (simp <;> omega))) | (with_reducible refine Below.setCell ?_ ?_ _; rotate_left; (first | omega | (simp <;> omega)))))
                    clear hwx
                    have hz21 : w10.heap.size ≤ wz.heap.size := hbz.size
                    (try have na21 := slAt_ne_new hsa)
                    (try have nb21 := slAt_ne_new hsb)
                    (try have hne := (ne_new h20).symm)
                    obtain ⟨g21, hg⟩ : ∃ g, g = wz.heap.size := ⟨_, rfl⟩
                    have h21 := hwn
                    clear hwn
                    rw [← hg] at h21 hz21 ⊢
                    (try rw [← hg] at na21)
                    (try rw [← hg] at nb21)
                    (try rw [← hg] at hne)
                    clear hg
                    have hbn : Below wz.heap.size wz wn := by first | exact hbn0 | exact ((Below.refl _ wz).drew).trans hbn0
                    replace hbz := hbz.trans (hbn.mono hbz.size)
                    (try replace hsa := hsa.below hbn)
                    (try replace hsb := hsb.below hbn)
                    (try replace h20 := blk_below h20 hbn)
                    (try replace h21 := blk_below h21 hbn)
                    clear hbn0 hbn
                    obtain ⟨wz, rfl⟩ : ∃ x, x = wn := ⟨_, rfl⟩
                    refine hK9.out _ _ (by intro b i; exact later hbz b) (fun hHeld => ?_)
                    clear hK9 K9
                    (try simp only [Act.put])
                    refine wpAnyH_ready (rs := [7]) (by kernel_rfl) (by simp) ?_
                    refine AllReadyH.cons (o := _) rfl (fun K9 hK9 => ?_) AllReadyH.nil
                    go_simp
                    refine (HA2 _ (by first | exact hbz | exact hbz.drew)).mono ?_
                    rintro r wn ⟨SA, ca, ila, rfl, hila, hsa, hfa, hbn0⟩
                    (try dsimp only)
                    (try simp only [heap_drew] at hfa)
                    (try have na20 := fresh_ne h20 hfa)
                    (try have na21 := fresh_ne h21 hfa)
                    clear hfa
                    have hbn : Below wz.heap.size wz wn := by first | exact hbn0 | exact ((Below.refl _ wz).drew).trans hbn0
                    replace hbz := hbz.trans (hbn.mono hbz.size)
                    (try replace hsa := hsa.below hbn)
                    (try replace hsb := hsb.below hbn)
                    (try replace h20 := blk_below h20 hbn)
                    (try replace h21 := blk_below h21 hbn)
                    clear hbn0 hbn
                    obtain ⟨wz, rfl⟩ : ∃ x, x = wn := ⟨_, rfl⟩
                    refine hK9.out _ _ (by intro b i; exact later hbz b) (fun hHeld => ?_)
                    clear hK9 K9
                    (try simp only [Act.put])
                    refine wpAnyH_ready (rs := [15]) (by kernel_rfl) (by simp) ?_
                    refine AllReadyH.cons (o := _) rfl (fun K9 hK9 => ?_) AllReadyH.nil
                    go_simp
                    refine (HR2 _ (by first | exact hbz | exact hbz.drew)).mono ?_
                    rintro r wn ⟨SB, cb, ilb, rfl, hilb, hsb, hfb, hbn0⟩
                    (try dsimp only)
                    (try simp only [heap_drew] at hfb)
                    (try have nb20 := fresh_ne h20 hfb)
                    (try have nb21 := fresh_ne h21 hfb)
                    clear hfb
                    have hbn : Below wz.heap.size wz wn := by first | exact hbn0 | exact ((Below.refl _ wz).drew).trans hbn0
                    replace hbz := hbz.trans (hbn.mono hbz.size)
                    (try replace hsa := hsa.below hbn)
                    (try replace hsb := hsb.below hbn)
                    (try replace h20 := blk_below h20 hbn)
                    (try replace h21 := blk_below h21 hbn)
                    clear hbn0 hbn
                    obtain ⟨wz, rfl⟩ : ∃ x, x = wn := ⟨_, rfl⟩
                    refine hK9.out _ _ (by intro b i; exact later hbz b) (fun hHeld => ?_)
                    clear hK9 K9
                    (try simp only [Act.put])
                    obtain rfl : ila = ilb := hila.out.trans hilb.out.symm
                    refine wpAnyH_cast (l' := #[true, true, true, true, true, true, true, true, true, true, true, true, true, true, true, true, true, true, false, false]) (by kernel_rfl) ?_
                    clear hilb hHeld
                    revert hila
                    revert hne
                    revert hbz
                    revert hsa
                    revert hsb
                    revert h20
                    revert h21
                    revert hz20
                    revert hz21
                    revert na20
                    revert na21
                    revert nb20
                    revert nb21
                    revert g20
                    revert g21
                    revert SA
                    revert SB
                    revert ca
                    revert cb
                    revert ila
                    revert wz
                    exact final
                · go_simp
                  first | (obtain ⟨wn, hwx⟩ : ∃ x, x = (wz.alloc (.cells #[.int .i64 0, .int .i64 0, .int .u64 0, .int .i64 0, .bool false, .bool false, .int .i64 0, .slice none 0 0] 67)).drew := ⟨_, rfl⟩; rw [← hwx]) | (obtain ⟨wn, hwx⟩ : ∃ x, x = wz.alloc (.cells #[.int .i64 0, .int .i64 0, .int .u64 0, .int .i64 0, .bool false, .bool false, .int .i64 0, .slice none 0 0] 67) := ⟨_, rfl⟩; rw [← hwx])
                  have hwn : wn.heap[wz.heap.size]? = some (.cells #[.int .i64 0, .int .i64 0, .int .u64 0, .int .i64 0, .bool false, .bool false, .int .i64 0, .slice none 0 0] 67 (0, 0)) := by rw [hwx]; exact heap_alloc_new _ _
                  have hbn0 : Below wz.heap.size wz wn := by rw [hwx]; exact (by repeat (first | with_reducible exact Below.refl _ _ | (with_reducible refine Below.drew ?_) | (with_reducible refine below_drewN ?_ _) | (with_reducible refine Below.alloc ?_ ?_ _; rotate_left; (first | omega | (simp <;> omega))) | (with_reducible refine Below.setCell ?_ ?_ _; rotate_left; (first | omega | (simp <;> omega)))))
                  clear hwx
                  have hz21 : w10.heap.size ≤ wz.heap.size := hbz.size
                  (try have na21 := slAt_ne_new hsa)
                  (try have nb21 := slAt_ne_new hsb)
                  (try have hne := (ne_new h20).symm)
                  obtain ⟨g21, hg⟩ : ∃ g, g = wz.heap.size := ⟨_, rfl⟩
                  have h21 := hwn
                  clear hwn
                  rw [← hg] at h21 hz21 ⊢
                  (try rw [← hg] at na21)
                  (try rw [← hg] at nb21)
                  (try rw [← hg] at hne)
                  clear hg
                  have hbn : Below wz.heap.size wz wn := by first | exact hbn0 | exact ((Below.refl _ wz).drew).trans hbn0
                  replace hbz := hbz.trans (hbn.mono hbz.size)
                  (try replace hsa := hsa.below hbn)
                  (try replace hsb := hsb.below hbn)
                  (try replace h20 := blk_below h20 hbn)
                  (try replace h21 := blk_below h21 hbn)
                  clear hbn0 hbn
                  obtain ⟨wz, rfl⟩ : ∃ x, x = wn := ⟨_, rfl⟩
                  refine hK9.out _ _ (by intro b i; exact later hbz b) (fun hHeld => ?_)
                  clear hK9 K9
                  (try simp only [Act.put])
                  refine wpAnyH_ready (rs := [7, 16]) (by kernel_rfl) (by simp) ?_
                  refine AllReadyH.cons (o := _) rfl (fun K9 hK9 => ?_) (AllReadyH.cons (o := _) rfl (fun K9 hK9 => ?_) (AllReadyH.nil))
                  · go_simp
                    refine (HA2 _ (by first | exact hbz | exact hbz.drew)).mono ?_
                    rintro r wn ⟨SA, ca, ila, rfl, hila, hsa, hfa, hbn0⟩
                    (try dsimp only)
                    (try simp only [heap_drew] at hfa)
                    (try have na20 := fresh_ne h20 hfa)
                    (try have na21 := fresh_ne h21 hfa)
                    clear hfa
                    have hbn : Below wz.heap.size wz wn := by first | exact hbn0 | exact ((Below.refl _ wz).drew).trans hbn0
                    replace hbz := hbz.trans (hbn.mono hbz.size)
                    (try replace hsa := hsa.below hbn)
                    (try replace hsb := hsb.below hbn)
                    (try replace h20 := blk_below h20 hbn)
                    (try replace h21 := blk_below h21 hbn)
                    clear hbn0 hbn
                    obtain ⟨wz, rfl⟩ : ∃ x, x = wn := ⟨_, rfl⟩
                    refine hK9.out _ _ (by intro b i; exact later hbz b) (fun hHeld => ?_)
                    clear hK9 K9
                    (try simp only [Act.put])
                    refine wpAnyH_ready (rs := [15, 16]) (by kernel_rfl) (by simp) ?_
                    refine AllReadyH.cons (o := _) rfl (fun K9 hK9 => ?_) (AllReadyH.cons (o := _) rfl (fun K9 hK9 => ?_) (AllReadyH.nil))
                    · go_simp
                      refine (HR2 _ (by first | exact hbz | exact hbz.drew)).mono ?_
                      rintro r wn ⟨SB, cb, ilb, rfl, hilb, hsb, hfb, hbn0⟩
                      (try dsimp only)
                      (try simp only [heap_drew] at hfb)
                      (try have nb20 := fresh_ne h20 hfb)
                      (try have nb21 := fresh_ne h21 hfb)
                      clear hfb
                      have hbn : Below wz.heap.size wz wn := by first | exact hbn0 | exact ((Below.refl _ wz).drew).trans hbn0
                      replace hbz := hbz.trans (hbn.mono hbz.size)
                      (try replace hsa := hsa.below hbn)
                      (try replace hsb := hsb.below hbn)
                      (try replace h20 := blk_below h20 hbn)
                      (try replace h21 := blk_below h21 hbn)
                      clear hbn0 hbn
                      obtain ⟨wz, rfl⟩ : ∃ x, x = wn := ⟨_, rfl⟩
                      refine hK9.out _ _ (by intro b i; exact later hbz b) (fun hHeld => ?_)
                      clear hK9 K9
                      (try simp only [Act.put])
                      refine wpAnyH_ready (rs := [16]) (by kernel_rfl) (by simp) ?_
                      refine AllReadyH.cons (o := _) rfl (fun K9 hK9 => ?_) AllReadyH.nil
                      go_simp
                      first | (obtain ⟨wn, hwx⟩ : ∃ x, x = (wz.alloc (.cells #[.int .i64 0, .int .i64 0, .int .u64 0, .int .i64 0, .bool false, .bool false, .int .i64 0, .slice none 0 0] 67)).drew := ⟨_, rfl⟩; rw [← hwx]) | (obtain ⟨wn, hwx⟩ : ∃ x, x = wz.alloc (.cells #[.int .i64 0, .int .i64 0, .int .u64 0, .int .i64 0, .bool false, .bool false, .int .i64 0, .slice none 0 0] 67) := ⟨_, rfl⟩; rw [← hwx])
                      have hwn : wn.heap[wz.heap.size]? = some (.cells #[.int .i64 0, .int .i64 0, .int .u64 0, .int .i64 0, .bool false, .bool false, .int .i64 0, .slice none 0 0] 67 (0, 0)) := by rw [hwx]; exact heap_alloc_new _ _
                      have hbn0 : Below wz.heap.size wz wn := by rw [hwx]; exact (by repeat (first | with_reducible exact Below.refl _ _ | (with_reducible refine Below.drew ?_) | (with_reducible refine below_drewN ?_ _) | (with_reducible refine Below.alloc ?_ ?_ _; rotate_left; (first | omega | (simp <;> omega))) | (with_reducible refine Below.setCell ?_ ?_ _; rotate_left; (first | omega | (simp <;> omega)))))
                      clear hwx
                      have hz20 : w10.heap.size ≤ wz.heap.size := hbz.size
                      (try have na20 := slAt_ne_new hsa)
                      (try have nb20 := slAt_ne_new hsb)
                      (try have hne := ne_new h21)
                      obtain ⟨g20, hg⟩ : ∃ g, g = wz.heap.size := ⟨_, rfl⟩
                      have h20 := hwn
                      clear hwn
                      rw [← hg] at h20 hz20 ⊢
                      (try rw [← hg] at na20)
                      (try rw [← hg] at nb20)
                      (try rw [← hg] at hne)
                      clear hg
                      have hbn : Below wz.heap.size wz wn := by first | exact hbn0 | exact ((Below.refl _ wz).drew).trans hbn0
                      replace hbz := hbz.trans (hbn.mono hbz.size)
                      (try replace hsa := hsa.below hbn)
                      (try replace hsb := hsb.below hbn)
                      (try replace h20 := blk_below h20 hbn)
                      (try replace h21 := blk_below h21 hbn)
                      clear hbn0 hbn
                      obtain ⟨wz, rfl⟩ : ∃ x, x = wn := ⟨_, rfl⟩
                      refine hK9.out _ _ (by intro b i; exact later hbz b) (fun hHeld => ?_)
                      clear hK9 K9
                      (try simp only [Act.put])
                      obtain rfl : ila = ilb := hila.out.trans hilb.out.symm
                      refine wpAnyH_cast (l' := #[true, true, true, true, true, true, true, true, true, true, true, true, true, true, true, true, true, true, false, false]) (by kernel_rfl) ?_
                      clear hilb hHeld
                      revert hila
                      revert hne
                      revert hbz
                      revert hsa
                      revert hsb
                      revert h20
                      revert h21
                      revert hz20
                      revert hz21
                      revert na20
                      revert na21
                      revert nb20
                      revert nb21
                      revert g20
                      revert g21
                      revert SA
                      revert SB
                      revert ca
                      revert cb
                      revert ila
                      revert wz
                      exact final
                    · go_simp
                      first | (obtain ⟨wn, hwx⟩ : ∃ x, x = (wz.alloc (.cells #[.int .i64 0, .int .i64 0, .int .u64 0, .int .i64 0, .bool false, .bool false, .int .i64 0, .slice none 0 0] 67)).drew := ⟨_, rfl⟩; rw [← hwx]) | (obtain ⟨wn, hwx⟩ : ∃ x, x = wz.alloc (.cells #[.int .i64 0, .int .i64 0, .int .u64 0, .int .i64 0, .bool false, .bool false, .int .i64 0, .slice none 0 0] 67) := ⟨_, rfl⟩; rw [← hwx])
                      have hwn : wn.heap[wz.heap.size]? = some (.cells #[.int .i64 0, .int .i64 0, .int .u64 0, .int .i64 0, .bool false, .bool false, .int .i64 0, .slice none 0 0] 67 (0, 0)) := by rw [hwx]; exact heap_alloc_new _ _
                      have hbn0 : Below wz.heap.size wz wn := by rw [hwx]; exact (by repeat (first | with_reducible exact Below.refl _ _ | (with_reducible refine Below.drew ?_) | (with_reducible refine below_drewN ?_ _) | (with_reducible refine Below.alloc ?_ ?_ _; rotate_left; (first | omega | (simp <;> omega))) | (with_reducible refine Below.setCell ?_ ?_ _; rotate_left; (first | omega | (simp <;> omega)))))
                      clear hwx
                      have hz20 : w10.heap.size ≤ wz.heap.size := hbz.size
                      (try have na20 := slAt_ne_new hsa)
                      (try have nb20 := slAt_ne_new hsb)
                      (try have hne := ne_new h21)
                      obtain ⟨g20, hg⟩ : ∃ g, g = wz.heap.size := ⟨_, rfl⟩
                      have h20 := hwn
                      clear hwn
                      rw [← hg] at h20 hz20 ⊢
                      (try rw [← hg] at na20)
                      (try rw [← hg] at nb20)
                      (try rw [← hg] at hne)
                      clear hg
                      have hbn : Below wz.heap.size wz wn := by first | exact hbn0 | exact ((Below.refl _ wz).drew).trans hbn0
                      replace hbz := hbz.trans (hbn.mono hbz.size)
                      (try replace hsa := hsa.below hbn)
                      (try replace hsb := hsb.below hbn)
                      (try replace h20 := blk_below h20 hbn)
                      (try replace h21 := blk_below h21 hbn)
                      clear hbn0 hbn
                      obtain ⟨wz, rfl⟩ : ∃ x, x = wn := ⟨_, rfl⟩
                      refine hK9.out _ _ (by intro b i; exact later hbz b) (fun hHeld => ?_)
                      clear hK9 K9
                      (try simp only [Act.put])
                      refine wpAnyH_ready (rs := [15]) (by kernel_rfl) (by simp) ?_
                      refine AllReadyH.cons (o := _) rfl (fun K9 hK9 => ?_) AllReadyH.nil
                      go_simp
                      refine (HR2 _ (by first | exact hbz | exact hbz.drew)).mono ?_
                      rintro r wn ⟨SB, cb, ilb, rfl, hilb, hsb, hfb, hbn0⟩
                      (try dsimp only)
                      (try simp only [heap_drew] at hfb)
                      (try have nb20 := fresh_ne h20 hfb)
                      (try have nb21 := fresh_ne h21 hfb)
                      clear hfb
                      have hbn : Below wz.heap.size wz wn := by first | exact hbn0 | exact ((Below.refl _ wz).drew).trans hbn0
                      replace hbz := hbz.trans (hbn.mono hbz.size)
                      (try replace hsa := hsa.below hbn)
                      (try replace hsb := hsb.below hbn)
                      (try replace h20 := blk_below h20 hbn)
                      (try replace h21 := blk_below h21 hbn)
                      clear hbn0 hbn
                      obtain ⟨wz, rfl⟩ : ∃ x, x = wn := ⟨_, rfl⟩
                      refine hK9.out _ _ (by intro b i; exact later hbz b) (fun hHeld => ?_)
                      clear hK9 K9
                      (try simp only [Act.put])
                      obtain rfl : ila = ilb := hila.out.trans hilb.out.symm
                      refine wpAnyH_cast (l' := #[true, true, true, true, true, true, true, true, true, true, true, true, true, true, true, true, true, true, false, false]) (by kernel_rfl) ?_
                      clear hilb hHeld
                      revert hila
                      revert hne
                      revert hbz
                      revert hsa
                      revert hsb
                      revert h20
                      revert h21
                      revert hz20
                      revert hz21
                      revert na20
                      revert na21
                      revert nb20
                      revert nb21
                      revert g20
                      revert g21
                      revert SA
                      revert SB
                      revert ca
                      revert cb
                      revert ila
                      revert wz
                      exact final
                  · go_simp
                    first | (obtain ⟨wn, hwx⟩ : ∃ x, x = (wz.alloc (.cells #[.int .i64 0, .int .i64 0, .int .u64 0, .int .i64 0, .bool false, .bool false, .int .i64 0, .slice none 0 0] 67)).drew := ⟨_, rfl⟩; rw [← hwx]) | (obtain ⟨wn, hwx⟩ : ∃ x, x = wz.alloc (.cells #[.int .i64 0, .int .i64 0, .int .u64 0, .int .i64 0, .bool false, .bool false, .int .i64 0, .slice none 0 0] 67) := ⟨_, rfl⟩; rw [← hwx])
                    have hwn : wn.heap[wz.heap.size]? = some (.cells #[.int .i64 0, .int .i64 0, .int .u64 0, .int .i64 0, .bool false, .bool false, .int .i64 0, .slice none 0 0] 67 (0, 0)) := by rw [hwx]; exact heap_alloc_new _ _
                    have hbn0 : Below wz.heap.size wz wn := by rw [hwx]; exact (by repeat (first | with_reducible exact Below.refl _ _ | (with_reducible refine Below.drew ?_) | (with_reducible refine below_drewN ?_ _) | (with_reducible refine Below.alloc ?_ ?_ _; rotate_left; (first | omega | (simp <;> omega))) | (with_reducible refine Below.setCell ?_ ?_ _; rotate_left; (first | omega | (simp <;> omega)))))
                    clear hwx
                    have hz20 : w10.heap.size ≤ wz.heap.size := hbz.size
                    (try have na20 := slAt_ne_new hsa)
                    (try have nb20 := slAt_ne_new hsb)
                    (try have hne := ne_new h21)
                    obtain ⟨g20, hg⟩ : ∃ g, g = wz.heap.size := ⟨_, rfl⟩
                    have h20 := hwn
                    clear hwn
                    rw [← hg] at h20 hz20 ⊢
                    (try rw [← hg] at na20)
                    (try rw [← hg] at nb20)
                    (try rw [← hg] at hne)
                    clear hg
                    have hbn : Below wz.heap.size wz wn := by first | exact hbn0 | exact ((Below.refl _ wz).drew).trans hbn0
                    replace hbz := hbz.trans (hbn.mono hbz.size)
                    (try replace hsa := hsa.below hbn)
                    (try replace hsb := hsb.below hbn)
                    (try replace h20 := blk_below h20 hbn)
                    (try replace h21 := blk_below h21 hbn)
                    clear hbn0 hbn
                    obtain ⟨wz, rfl⟩ : ∃ x, x = wn := ⟨_, rfl⟩
                    refine hK9.out _ _ (by intro b i; exact later hbz b) (fun hHeld => ?_)
                    clear hK9 K9
                    (try simp only [Act.put])
                    refine wpAnyH_ready (rs := [7]) (by kernel_rfl) (by simp) ?_
                    refine AllReadyH.cons (o := _) rfl (fun K9 hK9 => ?_) AllReadyH.nil
                    go_simp
                    refine (HA2 _ (by first | exact hbz | exact hbz.drew)).mono ?_
                    rintro r wn ⟨SA, ca, ila, rfl, hila, hsa, hfa, hbn0⟩
                    (try dsimp only)
                    (try simp only [heap_drew] at hfa)
                    (try have na20 := fresh_ne h20 hfa)
                    (try have na21 := fresh_ne h21 hfa)
                    clear hfa
                    have hbn : Below wz.heap.size wz wn := by first | exact hbn0 | exact ((Below.refl _ wz).drew).trans hbn0
                    replace hbz := hbz.trans (hbn.mono hbz.size)
                    (try replace hsa := hsa.below hbn)
                    (try replace hsb := hsb.below hbn)
                    (try replace h20 := blk_below h20 hbn)
                    (try replace h21 := blk_below h21 hbn)
                    clear hbn0 hbn
                    obtain ⟨wz, rfl⟩ : ∃ x, x = wn := ⟨_, rfl⟩
                    refine hK9.out _ _ (by intro b i; exact later hbz b) (fun hHeld => ?_)
                    clear hK9 K9
                    (try simp only [Act.put])
                    refine wpAnyH_ready (rs := [15]) (by kernel_rfl) (by simp) ?_
                    refine AllReadyH.cons (o := _) rfl (fun K9 hK9 => ?_) AllReadyH.nil
                    go_simp
                    refine (HR2 _ (by first | exact hbz | exact hbz.drew)).mono ?_
                    rintro r wn ⟨SB, cb, ilb, rfl, hilb, hsb, hfb, hbn0⟩
                    (try dsimp only)
                    (try simp only [heap_drew] at hfb)
                    (try have nb20 := fresh_ne h20 hfb)
                    (try have nb21 := fresh_ne h21 hfb)
                    clear hfb
                    have hbn : Below wz.heap.size wz wn := by first | exact hbn0 | exact ((Below.refl _ wz).drew).trans hbn0
                    replace hbz := hbz.trans (hbn.mono hbz.size)
                    (try replace hsa := hsa.below hbn)
                    (try replace hsb := hsb.below hbn)
                    (try replace h20 := blk_below h20 hbn)
                    (try replace h21 := blk_below h21 hbn)
                    clear hbn0 hbn
                    obtain ⟨wz, rfl⟩ : ∃ x, x = wn := ⟨_, rfl⟩
                    refine hK9.out _ _ (by intro b i; exact later hbz b) (fun hHeld => ?_)
                    clear hK9 K9
                    (try simp only [Act.put])
                    obtain rfl : ila = ilb := hila.out.trans hilb.out.symm
                    refine wpAnyH_cast (l' := #[true, true, true, true, true, true, true, true, true, true, true, true, true, true, true, true, true, true, false, false]) (by kernel_rfl) ?_
                    clear hilb hHeld
                    revert hila
                    revert hne
                    revert hbz
                    revert hsa
                    revert hsb
                    revert h20
                    revert h21
                    revert hz20
                    revert hz21
                    revert na20
                    revert na21
                    revert nb20
                    revert nb21
                    revert g20
                    revert g21
                    revert SA
                    revert SB
                    revert ca
                    revert cb
                    revert ila
                    revert wz
                    exact final
              · intro wz ila cb ca SB SA g21 g20 nb21 nb20 na21 na20 hz21 hz20 h21 h20 hsb hsa hbz hne hila
                have B20 := boxed h20
                have lzz : Later wz wz := Later.refl
                refine wpAnyH_ready (rs := [18]) (by kernel_rfl) (by simp) ?_
                refine AllReadyH.cons (o := _) rfl (fun K9 hK9 => ?_) AllReadyH.nil
                go_simp
                refine set8_named (P := K9 _) h20 ?_
                intro wn hwn hfar hbel
                replace hsa := hsa.of_heap (fun hl b o e => hfar b (na20 hl b o e))
                replace hsb := hsb.of_heap (fun hl b o e => hfar b (nb20 hl b o e))
                replace hbz := hbel _ _ hbz hz20
                replace h21 := (hfar _ hne.symm).trans h21
                clear B20 lzz h20 hfar hbel na20 nb20
                obtain ⟨wz, rfl⟩ : ∃ x, x = wn := ⟨_, rfl⟩
                refine hK9.out _ _ (by intro b i; exact later hbz b) (fun hHeld => ?_)
                clear hK9 K9
                (try simp only [Act.put])
                have B21 := boxed h21
                have lzz : Later wz wz := Later.refl
                refine wpAnyH_ready (rs := [19]) (by kernel_rfl) (by simp) ?_
                refine AllReadyH.cons (o := _) rfl (fun K9 hK9 => ?_) AllReadyH.nil
                have h20 := hwn
                go_simp
                refine set8_named (P := K9 _) h21 ?_
                intro wn hwn hfar hbel
                replace hsa := hsa.of_heap (fun hl b o e => hfar b (na21 hl b o e))
                replace hsb := hsb.of_heap (fun hl b o e => hfar b (nb21 hl b o e))
                replace hbz := hbel _ _ hbz hz21
                replace h20 := (hfar _ hne).trans h20
                clear B21 lzz h21 hfar hbel na21 nb21
                obtain ⟨wz, rfl⟩ : ∃ x, x = wn := ⟨_, rfl⟩
                refine hK9.out _ _ (by intro b i; exact later hbz b) (fun hHeld => ?_)
                clear hK9 K9
                (try simp only [Act.put])
                refine wpAnyH_done (by kernel_rfl) ?_ _
                go_wp2_with fail
                go_meet
                exact ⟨g20, g21, SA, SB, ca, cb, ila, rfl, rfl, by rw [HRO.out, HLU.out]; exact h20, by rw [HRO.out, HLU.out]; exact hwn, by rw [hila.out]; exact hfl, hsa, hsb, hbz⟩
            case rest =>
              obtain ⟨g20, g21, SA, SB, ca, cb, il, rfl, rfl, h20, h21, hill, hsa, hsb, hbc⟩ := hcut
              have lc := later hbc
              have B20 := boxed h20
              have B21 := boxed h21
              have lcc : Later wc wc := Later.refl
              have hxx : xa.con = xb.con := hxa.out.trans hxb.out.symm
              have hla : xa.inset.length ≤ 100 := by have h := congrArg SumC.inset hxa.out; rw [show xa.inset = xa.con.inset from rfl, h]; exact hfl
              have hlb : xb.inset.length ≤ 100 := by have h := congrArg SumC.inset hxb.out; rw [show xb.inset = xb.con.inset from rfl, h]; exact hfl
              have HSm : ∀ u [Later w10 u], Calls Try.prog 16 #[xa.v, xb.v] u fun r w' => r = .returned (.bool true) ∧ Below u.heap.size u w' := fun u i => by
                haveI := (l10 w7).trans i
                haveI := (l10 w9).trans i
                have h := same31_any xa xb u (hIa.below below_of) (hIb.below below_of) (by omega) (by omega)
                rwa [decide_eq_true hxx] at h
              have HSa : ∀ u [Later wc u], Calls Try.prog 26 #[.agg #[.int .i64 m, .int .i64 x.owner, .int .u64 x.number, .int .i64 ep, .bool f.isSome, .bool (f.getD zeroS).rooted, .int .i64 (if f.isSome then lu else 0), .slice SA il.length ca], .agg #[.int .i64 m, .int .i64 x.owner, .int .u64 x.number, .int .i64 ep, .bool f.isSome, .bool (f.getD zeroS).rooted, .int .i64 (if f.isSome then lu else 0), .slice SB il.length cb]] u fun r w' => r = .returned (.bool true) ∧ Below u.heap.size u w' := fun u i => sameAns_any m x.owner x.number ep _ _ _ SA SB ca cb il u (hsa.below i.below) (hsb.below i.below) (by omega)
              dsimp only [SumE.v] at HSm
              clear hxx hla hlb
              go_wp2_with (first | (go_at_call 16; refine (HSm _).mono ?_; rintro r w11 ⟨rfl, hb11⟩; have l11 := later hb11) | (go_at_call 26; refine (HSa _).mono ?_; rintro r w12 ⟨rfl, hb12⟩; have l12 := later hb12))
              all_goals go_roundw
              all_goals first
                | exact ⟨_, _, _, _, _, _, _, _, _, ⟨j + 1, by omega, by go_num, below_of⟩, rfl, rfl, rfl, rfl, rfl, rfl, rfl, rfl, rfl⟩
                | (simp [intOf]; omega)
          · have hjj : j = cur.length := by omega
            subst hjj
            go_wp2_with (first | (go_at_call 15; refine (awake_any _).mono ?_; rintro r w9 ⟨rfl, hb9⟩; have l9 := later hb9))
            go_ret
            exact ⟨rfl, below_of⟩
end Go.Proofs.Ytomgdkfoinojiaa

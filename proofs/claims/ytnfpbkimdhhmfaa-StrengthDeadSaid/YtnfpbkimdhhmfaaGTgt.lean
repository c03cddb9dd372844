/-
  Contracts of the functions of this seat that each theorem names: what a call returns, and that it writes nothing that was there before. The conditions stand in each theorem.
-/
import Derived.Test.YtnfpbkimdhhmfaaGReach
namespace Go.Proofs.Ytnfpbkimdhhmfaa
open Go.RowKit
attribute [local go_sem] Oper.semAt_some
/-- What lies below B is kept, and from lo on the cells that are not of type T. -/
def KpT (B lo : Nat) (T : TypeId) (W W' : World) : Prop := Below B W W' ∧ ∀ (k : Nat) (cs : Array Value) (ty : TypeId) (fr : Nat × Nat), lo ≤ k → W.heap[k]? = some (.cells cs ty fr) → ty ≠ T → W'.heap[k]? = some (.cells cs ty fr)
theorem KpT.trans {B lo : Nat} {T : TypeId} {X Y Z : World} (h : KpT B lo T X Y) (k : KpT B lo T Y Z) : KpT B lo T X Z := ⟨h.1.trans k.1, fun j cs ty fr h1 ho hne => k.2 j cs ty fr h1 (h.2 j cs ty fr h1 ho hne) hne⟩
theorem KpT.putObj {B lo : Nat} {T : TypeId} {W : World} {l : Nat} {o o' : Obj} (hB : B ≤ l) (hl : W.heap[l]? = some o) (ho : o.isCells = false) : KpT B lo T W (W.putObj l o') :=
  ⟨putObj_below (Below.refl _ _) hB, fun k cs ty fr _ hk _ => by
    rw [putObj_eq, putAt_heap (fun e => ?_)]
    · exact hk
    · subst e; rw [hl] at hk; injection hk with hk; subst hk; cases ho⟩
theorem KpT.own {B lo : Nat} {T : TypeId} {W W' : World} (h : KpT B lo T W W') {α : Type} {f : α → List Value} {s base : Nat} {e : TypeId} {v : Value} {l : List α} (ho : Own f s e base W v l) (hb : lo ≤ base) (hne : e ≠ T) : Own f s e base W' v l := by
  unfold Own at ho ⊢
  refine ⟨ho.1, ?_⟩
  rcases ho.2 with h0 | ⟨g, cap, cur, hv, hg, hc, r⟩
  · exact .inl h0
  · exact .inr ⟨g, cap, cur, hv, hg, h.2 g cur e _ (by omega) hc hne, r⟩
/-- What a strong identity gives: the references of its node, if that is a weak one. -/
def tgt1 (L : List NodeC) (s : IDE) : List IDE := match firstN L s with | some n => if n.kind = 2 then (n.fields.filter fun v => v.kind == 2).map ValE.ref else [] | none => []
def tgtS (L : List NodeC) (l : List IDE) : List IDE := l.flatMap (tgt1 L)
def tgt (L : List NodeC) (strong weak : List IDE) : List IDE := tgtS L strong ++ weak
theorem tgtS_succ {L : List NodeC} {l : List IDE} {k : Nat} {x : IDE} (h : l[k]? = some x) : tgtS L (l.take (k + 1)) = tgtS L (l.take k) ++ tgt1 L x := by
  unfold tgtS; rw [take_snoc_get h, List.flatMap_append]; simp
theorem tgt1_len {L : List NodeC} (hf : ∀ n ∈ L, n.fields.length ≤ 10000) (x : IDE) : (tgt1 L x).length ≤ 10000 := by
  unfold tgt1
  split
  · rename_i n hn
    split
    · rw [List.length_map]
      exact Nat.le_trans (List.length_filter_le _ _) (hf n (firstN_some hn).1)
    · simp
  · simp
theorem tgtS_len {L : List NodeC} (hf : ∀ n ∈ L, n.fields.length ≤ 10000) : ∀ l : List IDE, (tgtS L l).length ≤ l.length * 10000
  | [] => by simp [tgtS]
  | x :: l => by
    have h1 := tgtS_len hf l
    have h2 := tgt1_len hf x
    have e : tgtS L (x :: l) = tgt1 L x ++ tgtS L l := by simp [tgtS]
    rw [e, List.length_append, List.length_cons]; omega
set_option maxRecDepth 100000 in
set_option maxHeartbeats 8000000 in
theorem tgt_in (n : Nat) (hn : 1 ≤ n) (lp B lo gB sB wB : Nat) (A : Option Addr) (c : Nat) (l : List NodeE) (SA : Option Addr) (sc : Nat) (strong : List IDE) (WA : Option Addr) (wc : Nat) (weak : List IDE) (W0 : World) (hB : B = W0.heap.size)
    (H : NodesAt W0 A l) (hS : SlAt IDE.cells 2 W0 SA strong) (hWk : SlAt IDE.cells 2 W0 WA weak) (hl : l.length ≤ 10000) (hf : ∀ n ∈ l, n.fields.length ≤ 10000) (hsl : strong.length ≤ 10000) (hwl : weak.length ≤ 10000)
    (W : World) (h1 : lo ≤ gB) (h2 : lo ≤ sB) (h3 : lo ≤ wB) (hlo : lo ≤ W.heap.size) (J Jx : List IDE → World → Prop)
    (hY : ∀ pre x W, J pre W → pre.length < strong.length * 10000 + weak.length → YieldAt Fence.wide (n - 1) Try.prog lp #[x.v] W fun e W' =>
      (e = .returned (.bool true) ∧ J (pre ++ [x]) W' ∧ KpT B lo 37 W W') ∨ (e = .returned (.bool false) ∧ Jx (pre ++ [x]) W'))
    (hJ : AbidesFrom W.heap.size J) (hW : Below B W0 W) (b1 : W.heap[gB]? = some (.cells #[.slice A l.length c] 24 (0, 0))) (b2 : W.heap[sB]? = some (.cells #[.slice SA strong.length sc] 25 (0, 0))) (b3 : W.heap[wB]? = some (.cells #[.slice WA weak.length wc] 25 (0, 0))) (h0 : J [] W) :
    CallsIn Fence.wide n Try.prog 48 #[.func (.yield lp) #[] #[], .pointer (some ⟨sB, 0, none⟩), .pointer (some ⟨gB, 0, none⟩), .pointer (some ⟨wB, 0, none⟩)] W fun e W' => (∃ v, e = .returned v) ∧
      ((∃ ys, ys = tgt (conL l) strong weak ∧ J ys W') ∨ (∃ pre, True ∧ Jx pre W')) := by
  subst hB
  have lW : Later W0 W := ⟨hW⟩
  have HL := H.later
  have HS : ∀ u [Later W0 u], SlAt IDE.cells 2 u SA strong := fun u i => hS.below i.below
  have HWk : ∀ u [Later W0 u], SlAt IDE.cells 2 u WA weak := fun u i => hWk.below i.below
  have hfc : ∀ n ∈ conL l, n.fields.length ≤ 10000 := fun n hn => by
    obtain ⟨m, hm, rfl⟩ := List.mem_map.1 hn
    exact hf m hm
  have hJb : ∀ s u u', J s u → Below u.heap.size u u' → J s u' := fun s u u' h hb => hJ s u u' none h ⟨hb.os, hb.tape, hb.output, hb.size, fun k hk _ => hb.block k hk⟩ (fun r e => by cases e)
  have B2 : ∀ i, W.cell? ⟨sB, i, none⟩ = _ := blk_cell b2
  refine callsIn_of_wp Try.func48 rfl trivial ?_ rfl
  simp only [Try.ntmps48, List.size_toArray, List.length_cons, List.length_nil, Nat.reduceAdd, Nat.reduceSub, Array.replicate_succ, Array.replicate_zero, List.push_toArray, List.append_toArray, List.nil_append, List.cons_append]
  have hfF : Fence.wide.fn 26 := trivial
  gi_wp2
  gi_loopw [15] (fun iv wr => ∃ i : Nat, i ≤ strong.length ∧ iv = .int .i64 i ∧ J (tgtS (conL l) (strong.take i)) wr ∧ Below W0.heap.size W0 wr ∧ W.heap.size ≤ wr.heap.size ∧ wr.heap[gB]? = some (.cells #[.slice A l.length c] 24 (0, 0)) ∧ wr.heap[sB]? = some (.cells #[.slice SA strong.length sc] 25 (0, 0)) ∧ wr.heap[wB]? = some (.cells #[.slice WA weak.length wc] 25 (0, 0))) (fun iv _ => strong.length - (intOf iv).toNat)
  case atStart => exact ⟨0, Nat.zero_le _, rfl, h0, hW, Nat.le_refl _, b1, b2, b3⟩
  case round =>
    obtain ⟨i, hi', rfl, hJi, hbr, hzW, c1, c2, c3⟩ := hrel
    clear b1 b2 b3 B2 h0
    have lr := later hbr
    by_cases hlt : i < strong.length
    · obtain ⟨o1, o2, s, rfl, hs, C1⟩ := IDE.get (HS wr) hlt
      have hii : (i : Int) < (strong.length : Int) := by omega
      have hT := hide (tgtS_succ (L := conL l) hs)
      clear hs
      have BC1 := boxed c1
      have BC2 := boxed c2
      have BC3 := boxed c3
      have hzr : W.heap.size ≤ wr.heap.size := hzW
      have HF : ∀ u [Later W0 u], CallsIn Fence.wide (n - 1) Try.prog 26 #[.agg #[.slice A l.length c], s.v] u (FindPost (conL l) s u) := fun u i => callsIn_wide.2 (find_any A c l s u (HL u) (by omega) (fun n hn => Nat.le_trans (hf n hn) (by omega)))
      unfold FindPost at HF
      cases hfx : firstN (conL l) s with
      | none =>
        have ht1 := hide (show tgt1 (conL l) s = [] by unfold tgt1; rw [hfx])
        simp only [hfx, Option.getD_none, Option.isSome_none] at HF
        clear hfx
        gi_wp2_with (gi_at_call 26; (refine (HF _).mono ?_; rintro r w5 ⟨⟨m1, m2, mk, mc, mA, mp, mf⟩, rfl, hm, hF, hc1, hc2, hb5⟩; have hmk : mk = _ := congrArg NodeC.kind hm.out; have hmf : mf = _ := congrArg NodeC.fields hm.out; subst hmk hmf; have l5 := later hb5))
        go_roundw
        case rel => exact ⟨i + 1, by omega, by go_num, by rw [hT.out, ht1.out, List.append_nil]; exact hJb _ _ _ hJi below_of, below_of, Nat.le_trans hzW (show Below wr.heap.size wr _ from below_of).size, (BC1 _).1, (BC2 _).1, (BC3 _).1⟩
        case measure => simp [intOf]; omega
      | some nn =>
        have hnf : nn.fields.length ≤ 10000 := hfc nn (firstN_some hfx).1
        simp only [hfx, Option.getD_some, Option.isSome_some] at HF
        by_cases hk2 : nn.kind = 2
        · have ht1 := hide (show tgt1 (conL l) s = refsTo nn.fields nn.fields.length by unfold tgt1 refsTo; rw [hfx, List.take_length]; exact if_pos hk2)
          clear hfx
          gi_wp2_with (gi_at_call 26; (refine (HF _).mono ?_; rintro r w5 ⟨⟨m1, m2, mk, mc, mA, mp, mf⟩, rfl, hm, hF, hc1, hc2, hb5⟩; have hmk : mk = _ := congrArg NodeC.kind hm.out; have hmf : mf = _ := congrArg NodeC.fields hm.out; subst hmk hmf; have l5 := later hb5))
          have hF5 : Own ValE.cells 4 73 W.heap.size w5 (.slice mA nn.fields.length mp) nn.fields := hF.mono (Nat.le_trans hzW (show Below wr.heap.size wr _ from below_of).size)
          have l55 : Later w5 w5 := Later.refl
          have hzW5 : W.heap.size ≤ w5.heap.size := Nat.le_trans hzW (show Below wr.heap.size wr w5 from below_of).size
          have hJ5 := hJb _ _ _ hJi (show Below wr.heap.size wr w5 from below_of)
          have hb05 : Below W0.heap.size W0 w5 := below_of
          have l05 : Later W0 w5 := ⟨hb05⟩
          have d1 := (BC1 w5).1
          have d2 := (BC2 w5).1
          have d3 := (BC3 w5).1
          clear BC1 BC2 BC3 hF HF hbr lr c1 c2 c3 hJi hb5 l5 C1
          gi_loopw [35] (fun jv w3 => ∃ k : Nat, k ≤ nn.fields.length ∧ jv = .int .i64 k ∧ J (tgtS (conL l) (strong.take i) ++ refsTo nn.fields k) w3 ∧ Below W0.heap.size W0 w3 ∧ W.heap.size ≤ w3.heap.size ∧ w3.heap[gB]? = some (.cells #[.slice A l.length c] 24 (0, 0)) ∧ w3.heap[sB]? = some (.cells #[.slice (some ⟨o1, o2, none⟩) strong.length sc] 25 (0, 0)) ∧ w3.heap[wB]? = some (.cells #[.slice WA weak.length wc] 25 (0, 0)) ∧
            Own ValE.cells 4 73 W.heap.size w3 (.slice mA nn.fields.length mp) nn.fields) (fun jv _ => nn.fields.length - (intOf jv).toNat)
          case atStart => exact ⟨0, Nat.zero_le _, rfl, by rw [refsTo_zero, List.append_nil]; exact hJb _ _ _ hJ5 below_of, below_of, Nat.le_trans hzW5 (show Below w5.heap.size w5 _ from below_of).size, ((boxed d1) _).1, ((boxed d2) _).1, ((boxed d3) _).1, hF5.later _⟩
          case round =>
            clear hF5 l55 hzW5 hJ5 hb05 d1 d2 d3 l05
            obtain ⟨k, hk, rfl, hJk, hbr, hzW3, c1, c2, c3, hFk⟩ := hrel
            have lr := later hbr
            by_cases hlt2 : k < nn.fields.length
            · obtain ⟨p1, p2, v, rfl, hv, C1⟩ := ValE.get ((hFk.at_ ValE.enc).2.2) hlt2
              have hki : (k : Int) < (nn.fields.length : Int) := by omega
              have hS := hide (refsTo_succ hv)
              clear hv
              have BC1 := boxed c1
              have BC2 := boxed c2
              have BC3 := boxed c3
              by_cases hv2 : v.kind = 2
              · have hlen : (tgtS (conL l) (strong.take i) ++ refsTo nn.fields k).length < strong.length * 10000 + weak.length := by
                  have e1 := tgtS_len hfc (strong.take i)
                  have e2 := refsTo_len nn.fields k
                  have e3 : (strong.take i).length = i := by rw [List.length_take]; omega
                  rw [e3] at e1
                  rw [List.length_append]; omega
                have hJ3 := hJb _ _ (wr.alloc (.cells #[.int .i64 2, .int .i64 v.int, .int .i64 v.refMachine, .int .i64 v.refSerial] 73)) hJk below_of
                obtain ⟨fn, tmps, assign, body, hy, hR⟩ := hY _ v.ref _ hJ3 hlen
                have hFa := hFk.later (wr.alloc (.cells #[.int .i64 2, .int .i64 v.int, .int .i64 v.refMachine, .int .i64 v.refSerial] 73))
                dsimp only [ValE.ref] at hy hR
                gi_wp2
                refine hR.mono ?_
                rintro e W3 (⟨rfl, hJ4, hk4⟩ | ⟨rfl, hJx4⟩)
                · have hb4 : Below W0.heap.size W0 W3 := (show Below W0.heap.size W0 (wr.alloc (.cells #[.int .i64 2, .int .i64 v.int, .int .i64 v.refMachine, .int .i64 v.refSerial] 73)) from below_of).trans hk4.1
                  have hz4 : W.heap.size ≤ W3.heap.size := Nat.le_trans (Nat.le_trans hzW3 (show wr.heap.size ≤ (wr.alloc (.cells #[.int .i64 2, .int .i64 v.int, .int .i64 v.refMachine, .int .i64 v.refSerial] 73)).heap.size by simp)) hk4.1.size
                  have l3 := later hb4
                  gi_wp2
                  go_roundw
                  case rel => exact ⟨k + 1, by omega, by go_num, by rw [hS.out, if_pos hv2, ← List.append_assoc]; exact hJ4, hb4, hz4, hk4.2 _ _ _ _ h1 (BC1 _).1 (by decide), hk4.2 _ _ _ _ h2 (BC2 _).1 (by decide), hk4.2 _ _ _ _ h3 (BC3 _).1 (by decide), hk4.own hFa hlo (by decide)⟩
                  case measure => simp [intOf]; omega
                · gi_wp2
                  refine bodyPost_ret (results_none rfl _ _ _) rfl ?_
                  exact ⟨⟨_, rfl⟩, .inr ⟨_, trivial, hJx4⟩⟩
              · have hv2b : (v.kind == 2) = false := by simp [hv2]
                gi_wp2
                refine ⟨fun f hf => (by cases hf), ?_⟩
                gi_wp2
                go_roundw
                case rel => exact ⟨k + 1, by omega, by go_num, by rw [hS.out, if_neg hv2, List.append_nil]; exact hJb _ _ _ hJk below_of, below_of, Nat.le_trans hzW3 (show Below wr.heap.size wr _ from below_of).size, (BC1 _).1, (BC2 _).1, (BC3 _).1, hFk.later _⟩
                case measure => simp [intOf]; omega
            · have hke : k = nn.fields.length := by omega
              subst hke
              have BC1 := boxed c1
              have BC2 := boxed c2
              have BC3 := boxed c3
              gi_wp2
              go_roundw
              case rel => exact ⟨i + 1, by omega, by go_num, by rw [hT.out, ht1.out]; exact hJb _ _ _ hJk below_of, below_of, Nat.le_trans hzW3 (show Below wr.heap.size wr _ from below_of).size, (BC1 _).1, (BC2 _).1, (BC3 _).1⟩
              case measure => simp [intOf]; omega
        · have ht1 := hide (show tgt1 (conL l) s = [] by unfold tgt1; rw [hfx]; exact if_neg hk2)
          have hk2b : (nn.kind != 2) = true := by simp [hk2]
          clear hfx
          gi_wp2_with (gi_at_call 26; (refine (HF _).mono ?_; rintro r w5 ⟨⟨m1, m2, mk, mc, mA, mp, mf⟩, rfl, hm, hF, hc1, hc2, hb5⟩; have hmk : mk = _ := congrArg NodeC.kind hm.out; have hmf : mf = _ := congrArg NodeC.fields hm.out; subst hmk hmf; have l5 := later hb5))
          go_roundw
          case rel => exact ⟨i + 1, by omega, by go_num, by rw [hT.out, ht1.out, List.append_nil]; exact hJb _ _ _ hJi below_of, below_of, Nat.le_trans hzW (show Below wr.heap.size wr _ from below_of).size, (BC1 _).1, (BC2 _).1, (BC3 _).1⟩
          case measure => simp [intOf]; omega
    · have hie : i = strong.length := by omega
      subst hie
      rw [List.take_length] at hJi
      have BC3 := boxed c3
      gi_wp2
      gi_loopw [53] (fun jv w3 => ∃ k : Nat, k ≤ weak.length ∧ jv = .int .i64 k ∧ J (tgtS (conL l) strong ++ weak.take k) w3 ∧ Below W0.heap.size W0 w3) (fun jv _ => weak.length - (intOf jv).toNat)
      case atStart => exact ⟨0, Nat.zero_le _, rfl, by rw [List.take_zero, List.append_nil]; exact hJb _ _ _ hJi below_of, below_of⟩
      case round =>
        clear BC3 c1 c2 c3 hJi hbr lr
        obtain ⟨k, hk, rfl, hJk, hbr⟩ := hrel
        have lr := later hbr
        by_cases hlt2 : k < weak.length
        · obtain ⟨p1, p2, x, rfl, hx, C1⟩ := IDE.get (HWk wr) hlt2
          have hki : (k : Int) < (weak.length : Int) := by omega
          have hS := hide (take_snoc_get hx)
          clear hx
          have hlen : (tgtS (conL l) strong ++ weak.take k).length < strong.length * 10000 + weak.length := by
            have e1 := tgtS_len hfc strong
            rw [List.length_append, List.length_take]; omega
          have hJ3 := hJb _ _ (wr.alloc (.cells x.arr 37)) hJk below_of
          obtain ⟨fn, tmps, assign, body, hy, hR⟩ := hY _ x _ hJ3 hlen
          gi_wp2
          refine hR.mono ?_
          rintro e W3 (⟨rfl, hJ4, hk4⟩ | ⟨rfl, hJx4⟩)
          · have hb4 : Below W0.heap.size W0 W3 := (show Below W0.heap.size W0 (wr.alloc (.cells x.arr 37)) from below_of).trans hk4.1
            have l3 := later hb4
            gi_wp2
            go_roundw
            case rel => exact ⟨k + 1, by omega, by go_num, by rw [hS.out, ← List.append_assoc]; exact hJ4, hb4⟩
            case measure => simp [intOf]; omega
          · gi_wp2
            refine bodyPost_ret (results_none rfl _ _ _) rfl ?_
            exact ⟨⟨_, rfl⟩, .inr ⟨_, trivial, hJx4⟩⟩
        · have hke : k = weak.length := by omega
          subst hke
          rw [List.take_length] at hJk
          gi_wp2
          go_end0
          exact ⟨⟨_, rfl⟩, .inl ⟨_, rfl, hJb _ _ _ hJk below_of⟩⟩
end Go.Proofs.Ytnfpbkimdhhmfaa

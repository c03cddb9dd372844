/-
  Small texts of this seat, put into one. Conditions stand in each theorem.
-/
import Derived.Test.YtjegncmkebbdfaaGreatDoorGrp53
import Derived.Test.YtjegncmkebbdfaaGreatDoorRangeLib
import Derived.Deep.RegionHeld3
import Derived.Test.YtjegncmkebbdfaaGreatDoorGrp70
set_option linter.unusedSimpArgs false
set_option linter.unusedVariables false
namespace Go.Proofs.YtjegncmkebbdfaaGreatDoor
open Go.RowKit
attribute [local simp] heap_drew
attribute [local go_sem ↓] run_eql_id run_neq_id
attribute [local go_sem] Instr.makeFunc
/-! ### Walking a space -/
/-- Objects that stand one behind the other. -/
structure RowObj (ws : List Int) (off : Nat → Nat) (N : Nat) : Prop where
  zero : off 0 = 0
  len : off N = ws.length
  obj : ∀ j, j < N → ∃ h x, ObjAt ws (off j) h x ∧ off (j + 1) = off j + h.sz
theorem W64.at2 {w : World} {A : Option Addr} {ws : List Int} (hs : SlAt W64.cells 1 w A ws) {k : Nat} {x : Int} (hk : ws[k]? = some x) : ∃ gw o, A = some ⟨gw, o, none⟩ ∧ ∀ u [Later w u], u.cell? ⟨gw, o + k, none⟩ = some (.int .u64 x) := by
  have hlt := (List.getElem?_eq_some_iff.1 hk).1
  obtain ⟨gw, o, x', rfl, -, hx', hc⟩ := hs.at_ hlt
  rw [hk] at hx'
  injection hx' with hx'
  subst hx'
  exact ⟨gw, o, rfl, fun u i => by
    have := cell_below (hc 0 _ rfl) i.below
    simpa using this⟩
set_option maxRecDepth 100000 in
set_option maxHeartbeats 8000000 in
theorem size_any {g : Nat} {b lim : Int} {A : Option Addr} {c : Nat} {w : World} {ws : List Int} {k : Nat} {h : HdE} {x : IDE} (H : SpAt w g b lim (.slice A ws.length c)) (hs : SlAt W64.cells 1 w A ws) (hl : ws.length ≤ 5000) (ho : ObjAt ws k h x) :
    Calls Tryz.prog 181 #[spP g, .int .i64 (k : Int)] w fun r w' => r = .returned (.int .i64 (h.sz : Int)) ∧ Below w.heap.size w w' := by
  obtain ⟨gw, o, rfl, C0⟩ := W64.at2 hs ho.hd
  obtain ⟨gw', o', e, C1⟩ := W64.at2 hs ho.id
  injection e with e
  injection e with e1 e2
  subst e1 e2
  have HD := fun u : World => hdecode_any h u ho.ok
  have HW : ∀ u : World, Calls Tryz.prog 122 #[h.v] u fun r w' => r = .returned (.int .i64 (h.sz : Int)) ∧ Below u.heap.size u w' := fun u => by
    have := words_any5 h u ho.ok
    have hf := ho.ok.f
    rw [show (h.sz : Int) = 2 + max h.fields 2 by unfold HdE.sz; omega]
    exact this
  have HI := fun u : World => decodeID_any x u ho.ok'
  have B := boxed H
  have lww : Later w w := Later.refl
  have hle := ho.le
  have h4 := h.sz_two
  obtain ⟨n, hn⟩ : ∃ n, n = ws.length := ⟨_, rfl⟩
  rw [← hn] at B
  obtain ⟨sz, hsz⟩ : ∃ s, s = h.sz := ⟨_, rfl⟩
  simp only [← hsz] at HW ⊢
  obtain ⟨en, hen⟩ : ∃ s, s = h.enc := ⟨_, rfl⟩
  obtain ⟨ei, hei⟩ : ∃ s, s = encI x := ⟨_, rfl⟩
  rw [← hen] at HD
  rw [← hei] at HI
  simp only [← hen] at C0
  simp only [← hei] at C1
  have hz : ideq x.machine x.serial 0 0 = false := by
    rw [show ideq x.machine x.serial 0 0 = decide (x = ⟨0, 0⟩) from @ideq_iff x ⟨0, 0⟩]
    exact decide_eq_false (fun e => by have := ho.ok'; rw [e] at this; revert this; decide)
  have q1 : IntKind.i64.wrap ((k : Int) + 2) = (k : Int) + 2 := by rw [IntKind.wrap_i64]; omega
  have q2 : IntKind.i64.wrap ((k : Int) + 1) = (k : Int) + 1 := by rw [IntKind.wrap_i64]; omega
  have q3 : IntKind.i64.wrap ((n : Int) - k) = (n : Int) - k := by rw [IntKind.wrap_i64]; omega
  have q4 : ¬ (n : Int) < (k : Int) + 2 := by omega
  have q5 : (k : Int) < (n : Int) := by omega
  obtain ⟨k1, hk1⟩ : ∃ k1 : Nat, k1 = k + 1 := ⟨_, rfl⟩
  have q6 : (k1 : Int) < (n : Int) := by omega
  have q7 : (sz : Int) ≤ (n : Int) - k := by omega
  have q8 : (k : Int) + 1 = (k1 : Int) := by omega
  rw [q8] at q2
  have C1' : ∀ u [Later w u], u.cell? ⟨gw, o + k1, none⟩ = some (.int .u64 ei) := by rw [hk1]; exact C1
  clear C1 hk1 ho hle h4 hn hsz hen hei hs H hl
  go_enter Tryz.func181, Tryz.ntmps181
  go_upto_region 4 with (go_at_call 140; refine (HD _).mono ?_; rintro r w1 ⟨rfl, hb1⟩; have l1 := later hb1)
  refine wp_name ?_
  intro w2 hw2
  obtain ⟨B5, l2⟩ := box1 hw2
  have lw2 : Later w w2 := by infer_instance
  have l22 : Later w2 w2 := Later.refl
  clear hw2 l2
  go_upto_region 5 with (go_at_call 122; refine (HW _).mono ?_; rintro r w3 ⟨rfl, hb3⟩; have l3 := later hb3)
  go_wp2_with (go_at_call 136; refine (HI _).mono ?_; rintro r w4 ⟨rfl, hb4⟩; have l4 := later hb4)
  go_ret
  exact ⟨rfl, below_of⟩
set_option maxHeartbeats 4000000 in
theorem size_end {g : Nat} {b lim : Int} {A : Option Addr} {n c : Nat} {w : World} (H : SpAt w g b lim (.slice A n c)) (hn : n ≤ 5000) : Calls Tryz.prog 181 #[spP g, .int .i64 (n : Int)] w fun r w' => r = .returned (.int .i64 0) ∧ Below w.heap.size w w' := by
  have B := boxed H
  have lww : Later w w := Later.refl
  have q1 : IntKind.i64.wrap ((n : Int) + 2) = (n : Int) + 2 := by rw [IntKind.wrap_i64]; omega
  have q4 : (n : Int) < (n : Int) + 2 := by omega
  clear H hn
  go_enter Tryz.func181, Tryz.ntmps181
  go_wp2_with fail
  go_ret
  exact ⟨rfl, below_of⟩
end Go.Proofs.YtjegncmkebbdfaaGreatDoor

namespace Go.Proofs.YtjegncmkebbdfaaGreatDoor
open Go.RowKit
attribute [local simp] heap_drew
attribute [local go_sem] Oper.semAt_some
/-- What walking a space hands out: the objects' addresses, and at last the end. -/
def walkL (b : Int) (off : Nat → Nat) (k : Nat) : List (Int × Bool) := (List.range k).map fun j => (b + (off j : Int), true)
theorem walkL_len (b : Int) (off : Nat → Nat) (k : Nat) : (walkL b off k).length = k := by unfold walkL; rw [List.length_map, List.length_range]
theorem walkL_succ (b : Int) (off : Nat → Nat) (k : Nat) : walkL b off (k + 1) = walkL b off k ++ [(b + (off k : Int), true)] := by unfold walkL; rw [List.range_succ, List.map_append]; rfl
def walkX (x : Int × Bool) : Array Value := #[.int .i64 x.1, .bool x.2]
def nxO (off : Nat → Nat) (N j : Nat) : Int := if j < N then (off (j + 1) : Int) - off j else 0
theorem RowObj.le {ws : List Int} {off : Nat → Nat} {N : Nat} (R : RowObj ws off N) {j : Nat} (hj : j ≤ N) : off j ≤ ws.length := by
  have : ∀ d j, j + d = N → off j ≤ off N := by
    intro d
    induction d with
    | zero => intro j h; rw [show j = N by omega]; exact Nat.le_refl _
    | succ d ih =>
      intro j h
      obtain ⟨hh, x, -, hs⟩ := R.obj j (by omega)
      have := ih (j + 1) (by omega)
      omega
  have := this (N - j) j (by omega)
  rw [R.len] at this
  exact this
theorem sizeN_any {g : Nat} {b lim : Int} {A : Option Addr} {c : Nat} {w : World} {ws : List Int} {off : Nat → Nat} {N j : Nat} (H : SpAt w g b lim (.slice A ws.length c)) (hs : SlAt W64.cells 1 w A ws) (hl : ws.length ≤ 5000) (R : RowObj ws off N) (hj : j ≤ N) :
    Calls Tryz.prog 181 #[spP g, .int .i64 (off j : Int)] w fun r w' => r = .returned (.int .i64 (nxO off N j)) ∧ Below w.heap.size w w' := by
  unfold nxO
  rcases Nat.lt_or_ge j N with h | h
  · rw [if_pos h]
    obtain ⟨hh, x, ho, hz⟩ := R.obj j h
    rw [show (off (j + 1) : Int) - off j = (hh.sz : Int) by omega]
    exact size_any H hs hl ho
  · rw [if_neg (by omega), show j = N by omega, R.len]
    exact size_end H hl
set_option maxRecDepth 100000 in
set_option maxHeartbeats 8000000 in
theorem walk1_in (n : Nat) (hn : 1 ≤ n) (l Bs g : Nat) (b lim : Int) (A : Option Addr) (c : Nat) (ws : List Int) (off : Nat → Nat) (N : Nat) (T : TypeId) (W0 : World) (H : SpAt W0 g b lim (.slice A ws.length c)) (hs : SlAt W64.cells 1 W0 A ws) (hl : ws.length ≤ 5000) (hb : SpIn b ws.length) (R : RowObj ws off N) (J Jx : List (Int × Bool) → World → Prop) (B0 : Nat) (hJ : AbidesFrom B0 J)
    (hY : ∀ pre x W, J pre W → pre.length < N + 1 → YieldAt Fence.wide (n - 1) Tryz.prog l (walkX x) W fun e W' =>
      (e = .returned (.bool true) ∧ J (pre ++ [x]) W' ∧ KpB W0.heap.size Bs W W') ∨ (e = .returned (.bool false) ∧ Jx (pre ++ [x]) W'))
    (W : World) (hW : Below W0.heap.size W0 W) (hBs : W.heap[Bs]? = some (.cells #[spP g] T (0, 0))) (h0 : J [] W) :
    CallsIn Fence.wide n Tryz.prog 180 #[.func (.yield l) #[] #[], .pointer (some ⟨Bs, 0, none⟩)] W fun e W' => (∃ v, e = .returned v) ∧
      ((∃ ys, ys = walkL b off N ++ [(b + (ws.length : Int), false)] ∧ J ys W') ∨ (∃ pre, True ∧ Jx pre W')) := by
  have HZ : ∀ j, j ≤ N → ∀ u [Later W0 u], Calls Tryz.prog 181 #[spP g, .int .i64 (off j : Int)] u fun r w' => r = .returned (.int .i64 (nxO off N j)) ∧ Below u.heap.size u w' := fun j hj u i => sizeN_any (H.below i.below) (hs.below i.below) hl R hj
  have BG := boxed H
  have HB := boxed hBs
  have lW : Later W0 W := ⟨hW⟩
  have lWW : Later W W := Later.refl
  have HZ0 := HZ 0 (Nat.zero_le _)
  rw [R.zero] at HZ0
  simp only [Int.ofNat_zero, Int.natCast_zero] at HZ0
  have hbb := hb.b1
  have hb0 := hb.b0
  refine callsIn_of_wp Tryz.func180 rfl trivial ?_ rfl
  simp only [Tryz.ntmps180, List.size_toArray, List.length_cons, List.length_nil, Nat.reduceAdd, Nat.reduceSub, Array.replicate_succ, Array.replicate_zero, List.push_toArray, List.append_toArray, List.nil_append, List.cons_append]
  gi_wp2_with (refine ⟨trivial, ?_⟩; gi_at_call 181; refine (callsIn_wide.2 (HZ0 _)).mono ?_; rintro r w1 ⟨rfl, hb1⟩; have l1 := later hb1)
  have hb1 : Below W.heap.size W w1 := below_of
  have hJ1 : J [] w1 := hJ [] W w1 none h0 (grown_below hb1 none) (fun r h => by cases h)
  have hB1 := blk_below hBs hb1
  have hW1 : Below W0.heap.size W0 w1 := below_of
  clear h0 hBs HB hW lW lWW l1 HZ0
  gi_loopw [3, 4] (fun i m wr => ∃ j : Nat, j ≤ N ∧ i = .int .i64 (off j : Int) ∧ m = .int .i64 (nxO off N j) ∧ J (walkL b off j) wr ∧ Below W0.heap.size W0 wr ∧ wr.heap[Bs]? = some (.cells #[spP g] T (0, 0)))
    (fun i _ _ => ws.length - (intOf i).toNat)
  case atStart => exact ⟨0, Nat.zero_le _, by rw [R.zero]; rfl, rfl, hJ1, hW1, hB1⟩
  case round =>
    clear hJ1 hW1 hB1 hb1
    obtain ⟨j, hj, rfl, rfl, hJs, hnx, hBr⟩ := hrel
    have lr : Later W0 wr := ⟨hnx⟩
    have lrr : Later wr wr := Later.refl
    have HB := boxed hBr
    have hoj := R.le hj
    have hlen := walkL_len b off j
    have hsn := hide (walkL_succ b off j)
    obtain ⟨wv, hwv⟩ : ∃ v : Int, v = b + (off j : Int) := ⟨_, rfl⟩
    have q1 : IntKind.i64.wrap (b + (off j : Int)) = wv := by rw [IntKind.wrap_i64]; omega
    by_cases hlt : j < N
    · have ho1 := R.le (show j + 1 ≤ N by omega)
      obtain ⟨hh, hx, hob, hoz⟩ := R.obj j hlt
      have hz4 := hh.sz_two
      obtain ⟨m, hm⟩ : ∃ m, m = nxO off N j := ⟨_, rfl⟩
      have hm' : m = (off (j + 1) : Int) - off j := by rw [hm]; unfold nxO; rw [if_pos hlt]
      have q2 : 0 < m := by omega
      obtain ⟨o2, ho2⟩ : ∃ o2 : Int, o2 = (off (j + 1) : Int) := ⟨_, rfl⟩
      have q3 : IntKind.i64.wrap ((off j : Int) + m) = o2 := by rw [IntKind.wrap_i64]; omega
      have HZ1 := HZ (j + 1) (by omega)
      rw [← ho2] at HZ1
      rw [← hm]
      rw [← hwv] at hsn
      have Ho2 := hide ho2
      have hms := hide (show ws.length - off (j + 1) < ws.length - off j by omega)
      obtain ⟨fn, tmps, assign, body, hy, hR⟩ := hY (walkL b off j) (wv, true) wr hJs (by omega)
      dsimp only [walkX] at hy hR
      clear hm hm' ho2 hwv hoz hob ho1 hoj hz4 hlen HZ H hs hb
      gi_wp2
      refine hR.mono ?_
      rintro e W3 (⟨rfl, hJ3, hk3⟩ | ⟨rfl, hJx3⟩)
      · have hb3 : Below W0.heap.size W0 W3 := hnx.trans hk3.1
        have l3 : Later W0 W3 := ⟨hb3⟩
        have hB3 := hk3.2 _ hBr
        have HB3 := boxed hB3
        have l33 : Later W3 W3 := Later.refl
        gi_wp2_with (refine ⟨trivial, ?_⟩; gi_at_call 181; refine (callsIn_wide.2 (HZ1 _)).mono ?_; rintro r w4 ⟨rfl, hb4⟩; have l4 := later hb4)
        have hb4 : Below W3.heap.size W3 w4 := below_of
        go_roundw
        case rel => exact ⟨j + 1, by omega, by rw [Ho2.out], rfl, by rw [hsn.out]; exact hJ _ _ w4 none hJ3 (grown_below hb4 none) (fun r h => by cases h), hb3.trans (hb4.mono hb3.size), blk_below hB3 hb4⟩
        case measure => rw [Ho2.out]; simp only [intOf, Int.toNat_natCast]; exact hms.out
      · gi_wp2
        refine bodyPost_ret (results_none rfl _ _ _) rfl ?_
        exact ⟨⟨_, rfl⟩, .inr ⟨_, trivial, hJx3⟩⟩
    · have hj' : j = N := by omega
      subst hj'
      have hm : nxO off j j = 0 := by unfold nxO; rw [if_neg (by omega)]
      rw [hm]
      have hol : off j = ws.length := R.len
      rw [hol] at q1 hwv
      rw [hol]
      have Hwv := hide hwv
      obtain ⟨fn, tmps, assign, body, hy, hR⟩ := hY (walkL b off j) (wv, false) wr hJs (by omega)
      dsimp only [walkX] at hy hR
      clear hm hwv hoj hlen HZ H hs hb hsn hol
      gi_wp2
      refine hR.mono ?_
      rintro e W3 (⟨rfl, hJ3, hk3⟩ | ⟨rfl, hJx3⟩)
      · gi_wp2
        go_end0
        exact ⟨⟨_, rfl⟩, .inl ⟨_, rfl, by rw [← Hwv.out]; exact hJ3⟩⟩
      · gi_wp2
        go_end0
        exact ⟨⟨_, rfl⟩, .inr ⟨_, trivial, hJx3⟩⟩
theorem walk_mk (g : Nat) (w : World) :
    Calls Tryz.prog 168 #[spP g] w fun e w' => e = .returned (.func (.func 180) #[] #[.pointer (some ⟨w.heap.size, 0, none⟩)]) ∧ w' = w.alloc (.cells #[spP g] 105) := by
  go_enter Tryz.func168, Tryz.ntmps168
  go_wp2
  go_ret
  exact ⟨rfl, rfl⟩
end Go.Proofs.YtjegncmkebbdfaaGreatDoor

namespace Go.Proofs.YtjegncmkebbdfaaGreatDoor
open Go.RowKit
attribute [local simp] heap_drew
attribute [local go_sem] Oper.semAt_some
theorem intTH : ElemT Tryz.prog 191 3 1 8 := ElemT.mk' (z := .int .i64 0) Tryz.underlying191 (by kernel_rfl) rfl
theorem IH.enc : Enc I64.cells 1 := ⟨fun _ => rfl, fun x u hu => by simp only [I64.cells, List.mem_singleton] at hu; rw [hu]; rfl, by decide⟩
/-- A range over a function whose loop variables lie in slots and whose body goes on to its end each time. -/
theorem wp_rangePlain {P : Program} {α : Type} {g : Operand} {ps : Array Tmp} {assign body : Code} {Q : Exit → Act → World → Prop} {a : Act} {w : World} {gf : Nat} {lb : Array Value} (hg : a.eval g = .func (.func gf) #[] lb) (eg : ∀ args w, (callFunc gf args).run P w = .ok (.enter gf args) w)
    {encs : α → Array Value} {B Bs : Nat} {S Sp : List α → Prop} {N : Nat} {w0 : World} (hseq : SeqStopsK Fence.wide 8 P gf lb encs (KpB B Bs) S Sp N w0) (hB : B ≤ w.heap.size) (hBs : Bs < w.heap.size) (hb0 : Below w0.heap.size w0 w) (hps : ∀ x, (encs x).size = ps.size)
    (I : List α → World → Prop) (hI : OwnFrom w.heap.size I) (h0 : I [] w) {tm : α → Array Value}
    (hassign : ∀ (l : Nat) (x : α) (W : World) (K : Act → World → Prop), (∀ a', a' = { tmps := tm x, defers := [] } → K a' W) →
      assign.wpIn (Fence.wide.inRound l) 7 P (Exit.then K (fun _ _ _ => False)) { tmps := (ps.zip (encs x)).foldl (fun t (p, v) => t.setIfInBounds p v) a.tmps, defers := [] } W)
    (hbody : ∀ (l : Nat) (pre : List α) (x : α) (W : World), I pre W → pre.length < N →
      body.wpIn (Fence.wide.inRound l) 7 P (fun e _ W' => e = .normal ∧ KeepsFrom w.heap.size W W' ∧ KpB B Bs W W' ∧ I (pre ++ [x]) W') { tmps := tm x, defers := [] } W)
    (hdone : ∀ (D : Nat) (xs : List α) (W : World), w.heap.size ≤ D → S xs → I xs W → W.heap[D]? = some (.deferred (some [])) → Q .normal { a with defers := { target := .collected D, args := #[] } :: a.defers } W) :
    (Code.rangeFunc g ps assign body).wp P Q a w := by
  refine (wpIn_wide (n := 9)).1 (wpIn_rangeFunc_ownH (F := Fence.wide) rfl (by omega) hg trivial eg hseq (fun h k => h.trans k) (fun W l o o' hl _ _ _ => KpB.putObj (by omega) (by omega)) hb0 hps I (fun _ _ _ => False) hI
    (fun c s W W' row h _ _ => h.elim) h0 (fun x a' W => a' = { tmps := tm x, defers := [] }) ?_ ?_ ?_ hdone (fun _ _ _ _ _ _ h => h.elim))
  · rintro x a' s W W' row h1 hg' hr
    exact h1
  · intro l pre x W K hi hK
    exact hassign l x W K fun a' ha' => hK a' _ (KeepsFrom.refl _ _) ⟨Below.refl _ _, fun _ h => h⟩ hi ha'
  · rintro l pre x a' W hl _ hi rfl hlen
    refine wpIn_mono (hbody l pre x W hi hlen) ?_
    rintro e a'' W' ⟨rfl, h⟩
    exact h
theorem walk_stops (n : Nat) (hn : 1 ≤ n) (Bs g : Nat) (b lim : Int) (A : Option Addr) (c : Nat) (ws : List Int) (off : Nat → Nat) (N : Nat) (T : TypeId) (W0 : World) (H : SpAt W0 g b lim (.slice A ws.length c)) (hs : SlAt W64.cells 1 W0 A ws) (hl : ws.length ≤ 5000) (hb : SpIn b ws.length) (R : RowObj ws off N) (W1 : World) (hW1 : Below W0.heap.size W0 W1) (hBs : W1.heap[Bs]? = some (.cells #[spP g] T (0, 0))) :
    SeqStopsK Fence.wide n Tryz.prog 180 #[.pointer (some ⟨Bs, 0, none⟩)] walkX (KpB W0.heap.size Bs) (fun ys => ys = walkL b off N ++ [(b + (ws.length : Int), false)]) (fun _ => True) (N + 1) W1 := fun l J Jx W hW hJ _ hY h0 =>
  walk1_in n hn l Bs g b lim A c ws off N T W0 H hs hl hb R J Jx _ hJ hY W (hW1.trans (hW.mono hW1.size)) (blk_below hBs hW) h0
theorem wpListIn_appH {α : Type} {f : α → List Value} {s : Nat} {e : TypeId} {base : Nat} {w : World} {v : Value} {l : List α} {F : Fence} {n : Nat} {P : Program} {t : TypeId} {bytes : Nat} {ops : Array Oper} {rest : List Oper} {o : Oper} {a : Act} {Q : Exit → Act → World → Prop} (hgd : o.guard = none) (sl x : Operand)
    (ho : o.op = .call { callee := .builtin .append, args := #[sl, x], argTypes := #[t, t] }) (he : Enc f s) (ht : ElemT P t e s bytes) (hown : Own f s e base w v l) (A : Option Addr) (c m : Nat) (l2 : List α) (hm : l2.length = m) (hsrc : SlAt f s w A l2)
    (hs : a.eval sl = v) (hx : a.eval x = .slice A m c)
    (hbytes : (l.length + m) * bytes ≤ 140737488355328) (h63 : l.length + m ≤ maxLen) (hbase : base ≤ w.heap.size)
    (h : ∀ A' c' w', Own f s e base w' (.slice A' (l.length + m) c') (l ++ l2) → w.grownBy w' v.ownBlock → wpListIn F n P ops Q rest (a.put o.dst (.slice A' (l.length + m) c')) w') : wpListIn F n P ops Q (o :: rest) a w := by
  refine wpListIn_plain hgd fun K hK => ?_
  subst hm
  obtain ⟨v', w', hrun, h2, h3, h4⟩ := run_app (P := P) (ty := o.type) he ht hown A c l2 hsrc hbytes h63 hbase
  obtain ⟨A', c', rfl, -, -, -⟩ := h2.slAt he
  rw [List.length_append] at h2 hrun
  unfold Oper.wpIn
  refine ⟨?_, ?_⟩
  · simp [Oper.about, ho, resolve, Target.leads, Sem.run_pure]
  · rw [Oper.semAt_plain F _ _ (by rw [ho]; intro c hc'; cases hc')]
    simp only [execOp, ho, resolve, invoke, builtin, Sem.run_bind, Sem.run_pure, Result.andThen_ok, List.map_toArray, List.map_cons, List.map_nil, hs, hx, hrun]
    exact hK _ _ (h A' c' w' h2 h3)
/-- The addresses among what walking handed out. -/
def addrsP (pre : List (Int × Bool)) : List Int := (pre.filter (·.2)).map (·.1)
theorem addrsP_walk (b : Int) (off : Nat → Nat) (N : Nat) (e : Int) : addrsP (walkL b off N ++ [(e, false)]) = (List.range N).map fun j => b + (off j : Int) := by
  unfold addrsP walkL
  rw [List.filter_append, List.map_append]
  simp [List.filter_map, Function.comp_def]
  rw [List.filter_eq_self.2 (fun _ _ => rfl)]
theorem addrsP_len (pre : List (Int × Bool)) : (addrsP pre).length ≤ pre.length := by unfold addrsP; rw [List.length_map]; exact List.length_filter_le _ _
theorem addrsP_snoc (pre : List (Int × Bool)) (x : Int) (f : Bool) : addrsP (pre ++ [(x, f)]) = if f then addrsP pre ++ [x] else addrsP pre := by
  unfold addrsP
  rw [List.filter_append, List.map_append]
  cases f <;> simp
def ObjPost (b : Int) (off : Nat → Nat) (N : Nat) (w : World) (r : Ending) (w' : World) : Prop := ∃ A c, r = .returned (.slice A N c) ∧ Own I64.cells 1 3 w.heap.size w' (.slice A N c) ((List.range N).map fun j => b + (off j : Int)) ∧ Below w.heap.size w w'
set_option maxRecDepth 100000 in
set_option maxHeartbeats 8000000 in
theorem spObjects_any (g : Nat) (b lim : Int) (A : Option Addr) (c : Nat) (ws : List Int) (off : Nat → Nat) (N : Nat) (w : World) (H : SpAt w g b lim (.slice A ws.length c)) (hs : SlAt W64.cells 1 w A ws) (hl : ws.length ≤ 5000) (hb : SpIn b ws.length) (R : RowObj ws off N) (hN : N ≤ 5000) :
    Calls Tryz.prog 137 #[spP g] w (ObjPost b off N w) := by
  refine calls_marks Tryz.func137 rfl ?_
  simp only [Tryz.ntmps137, List.size_toArray, List.length_cons, List.length_nil, Nat.reduceAdd, Nat.reduceSub, Array.replicate_succ, Array.replicate_zero, List.push_toArray, List.append_toArray, List.nil_append, List.cons_append]
  go_wp2_with (go_at_call 168; refine (walk_mk g _).mono ?_; rintro r wk ⟨rfl, hwk⟩)
  refine wp_name ?_
  intro w1 hw1
  have b0 : w1.heap[w.heap.size]? = some (.cells #[.slice none 0 0] 191 (0, 0)) := (by rw [← hw1]; simp only [heap_alloc_if, World.size_alloc]; repeat (first | rw [if_pos trivial] | rw [if_neg (by omega)] | rw [if_pos (by omega)]); try rfl)
  have b1 : w1.heap[w.heap.size + 1]? = some (.cells #[spP g] 105 (0, 0)) := (by rw [← hw1]; simp only [heap_alloc_if, World.size_alloc]; repeat (first | rw [if_pos trivial] | rw [if_neg (by omega)] | rw [if_pos (by omega)]); try rfl)
  have hz1 : w1.heap.size = w.heap.size + 2 := by rw [← hw1]; simp
  have hb1 : Below w.heap.size w w1 := by rw [← hw1]; exact (by repeat (first | with_reducible exact Below.refl _ _ | (with_reducible refine Below.drew ?_) | (with_reducible refine below_drewN ?_ _) | (with_reducible refine Below.alloc ?_ ?_ _; rotate_left; (first | omega | (simp <;> omega))) | (with_reducible refine Below.setCell ?_ ?_ _; rotate_left; (first | omega | (simp <;> omega)))))
  clear hw1 hwk
  have hBB : w.heap.size ≤ w1.heap.size := by omega
  have hBs1 : w.heap.size + 1 < w1.heap.size := by omega
  refine wp_rangePlain (gf := 180) (lb := #[.pointer (some ⟨w.heap.size + 1, 0, none⟩)]) rfl (enters_of Tryz.func180 (by kernel_rfl) rfl) (walk_stops 8 (by omega) (w.heap.size + 1) g b lim A c ws off N _ w H hs hl hb R w1 hb1 b1) hBB hBs1 (Below.refl _ _) (fun _ => rfl)
    (fun pre W => ∃ A c, W.heap[w.heap.size]? = some (.cells #[.slice A (addrsP pre).length c] 191 (0, 0)) ∧ Own I64.cells 1 3 w1.heap.size W (.slice A (addrsP pre).length c) (addrsP pre) ∧ Below w.heap.size w W ∧ w1.heap.size ≤ W.heap.size)
    ?hI ⟨none, 0, b0, Own.nil, hb1, Nat.le_refl _⟩ (tm := fun x => #[spP g, undef, .slice none 0 0, .pointer (some ⟨w.heap.size, 0, none⟩), .int .i64 x.1, .bool x.2, spP g, .func (.func 180) #[] #[.pointer (some ⟨w.heap.size + 1, 0, none⟩)], .int .i64 x.1, .bool x.2, undef, undef, undef, undef, undef, undef]) ?hassign ?hbody ?hdone
  case hI =>
    rintro s W W' row ⟨A, c, h0, ho, hb, hz⟩ hg' hr
    have hne : ∀ (k : Nat) (cs : Array Value) (t : TypeId) (fr : Nat × Nat), W.heap[k]? = some (.cells cs t fr) → row ≠ some k := fun k cs t fr hk e => by
      obtain ⟨_, o, ho, hc⟩ := hr k e
      rw [hk] at ho; injection ho with ho; subst ho; cases hc
    refine ⟨A, c, (hg'.block _ (blk_lt h0) (fun e => hne _ _ _ _ h0 e.symm)).trans h0, ho.kept hg' ?_, hb.trans ((Below.refl _ _).grown hg' (by omega) (fun k hk => by have := (hr k hk).1; omega)), Nat.le_trans hz hg'.size⟩
    rcases ho.2 with ⟨hv, -⟩ | ⟨gg, cap, cur, hv, -, hgg, -⟩
    · rw [hv]; exact .inl rfl
    · rw [hv]; exact .inr (fun e => hne gg _ _ _ hgg (e.symm ▸ rfl))
  case hassign =>
    rintro l ⟨x, f⟩ W K hK
    gi_wp2
    simp [walkX]
  case hbody =>
    rintro l pre ⟨x, f⟩ W ⟨A, c, h0, ho, hb, hz⟩ hlen
    have hal := addrsP_len pre
    have Hsn := hide (addrsP_snoc pre x f)
    generalize addrsP pre = ap at h0 ho hal Hsn
    have H0 := hide h0
    have Hz1 := hide hz1
    have Hz := hide hz
    clear h0 hz1 hz
    cases f
    · gi_wp2
      refine ⟨KeepsFrom.refl _ _, ⟨Below.refl _ _, fun _ h => h⟩, A, c, ?_, ?_, Hz.out⟩
      · rw [Hsn.out]; exact H0.out
      · rw [Hsn.out]; exact ho
    · have h0 := H0.out
      have hz := Hz.out
      have hz1 := Hz1.out
      have V := boxed h0
      have hba : Below W.heap.size W (W.alloc (.cells #[.int .i64 x] 3)) := (Below.refl _ _).alloc (Nat.le_refl _) _
      have hoa := ho.below hba
      have Hgr : ∀ (k : Nat), k < w1.heap.size → ∀ w', (W.alloc (.cells #[.int .i64 x] 3)).grownBy w' (Value.slice A ap.length c).ownBlock → w'.heap[k]? = W.heap[k]? := fun k hk w' hg' => by
        have hza : k < (W.alloc (.cells #[.int .i64 x] 3)).heap.size := by simp; omega
        rw [hg'.block _ hza (fun e => by have := (World.ownsRow.lt hoa _ e.symm).1; omega), hba.block _ (by omega)]
      have Hbox : ∀ w', (W.alloc (.cells #[.int .i64 x] 3)).grownBy w' (Value.slice A ap.length c).ownBlock → w'.heap[w.heap.size]? = some (.cells #[.slice A ap.length c] 191 (0, 0)) := fun w' hg' => (Hgr _ (by omega) w' hg').trans h0
      clear h0 hz1
      gi_wp2_with (first
        | (gi_at_builtin; refine wpListIn_appH rfl (.tmp 11) (.tmp 13) rfl IH.enc intTH hoa (some ⟨W.heap.size, 0, none⟩) 1 1 [x] rfl (blk_slAt IH.enc (fr := (0, 0)) (heap_alloc_new W (.cells #[.int .i64 x] 3)) [x] (by simp [I64.cells])) rfl rfl (by omega) (by simp only [maxLen]; omega) (by simp; omega) ?_; intro A' c' w' ho' hg'; have V' := boxed (Hbox w' hg'))
        | gi_in)
      have hko : KeepsOthers W w' := (KeepsOthers.alloc _ _).trans (KeepsOthers.of_grownBy hg' fun j o hj hjo => by
        rcases hoa.2 with ⟨hv, -⟩ | ⟨gg, cap, cur, hv, -, hgg, -⟩
        · rw [hv] at hj; cases hj
        · rw [hv] at hj; injection hj with hj; subst hj
          rw [hgg] at hjo; injection hjo with hjo; subst hjo; rfl)
      have hbWw : Below w.heap.size W w' := (hba.mono (by omega)).trans (hoa.belowGrown (Below.refl _ _) hg' (by omega) (by simp; omega))
      have hzw := hg'.size
      have hz1 := Hz1.out
      refine ⟨?_, ⟨hbWw.setCell (by simp) _, ?_⟩, A', c', ?_, ?_, (hb.trans hbWw).setCell (by simp) _, ?_⟩
      · exact (hko.trans (KeepsOthers.setCell _ _ _)).from _
      · intro o ho
        rw [blk_far (p := ⟨w.heap.size, 0, none⟩) (show w.heap.size + 1 ≠ w.heap.size by omega), Hgr _ (by omega) w' hg']
        exact ho
      · rw [Hsn.out]
        exact (blk_set (V' w').1 0 _).trans (by simp)
      · rw [Hsn.out]
        have := ho'.far (p := ⟨w.heap.size, 0, none⟩) (fun e => by have := (World.ownsRow.lt ho' _ e).1; simp only at this; omega) (.slice A' (ap.length + 1) c')
        simpa using this
      · rw [World.size_alloc] at hzw; first | omega | (simp [World.setCell]; omega)
  case hdone =>
    rintro D ys W hD rfl ⟨A, c, h0, ho, hb, hz⟩ hK
    rw [addrsP_walk] at h0 ho
    simp only [List.length_map, List.length_range] at h0 ho
    have V := boxed h0
    have HD := there_of hK
    have hoD : ∀ o, Own I64.cells 1 3 w1.heap.size (W.putObj D o) (.slice A N c) ((List.range N).map fun j => b + (off j : Int)) := fun o => ho.kept (row := some D) (by rw [putObj_eq]; exact ⟨rfl, rfl, rfl, by simp [putAt_size], fun k _ hk => putAt_heap (fun e => hk (by rw [e]))⟩) (by
      rcases ho.2 with ⟨hv, -⟩ | ⟨gg, cap, cur, hv, -, hgg, -⟩
      · rw [hv]; exact .inl rfl
      · rw [hv]; refine .inr (fun e => ?_)
        have e' : gg = D := by simpa [Value.ownBlock] using e
        subst e'
        have := hgg.symm.trans hK
        cases this)
    clear hK
    go_wp2_with fail
    exact ret_marked rfl (HD _) (results_tmp rfl _ _ _) ⟨A, c, rfl, (hoD _).mono (by omega), putObj_below hb (by omega)⟩
end Go.Proofs.YtjegncmkebbdfaaGreatDoor

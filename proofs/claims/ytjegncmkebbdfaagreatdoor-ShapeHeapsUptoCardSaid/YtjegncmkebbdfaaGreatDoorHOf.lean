/-
  Contracts of the functions of this seat that each theorem names: what a call returns, and that it writes nothing that was there before. The conditions stand in each theorem.
-/
import Derived.Test.YtjegncmkebbdfaaGreatDoorGrp65
import Derived.Test.YtjegncmkebbdfaaGreatDoorF16Restr
import Derived.Deep.RegionHeld3
set_option linter.unusedSimpArgs false
set_option linter.unusedVariables false
namespace Go.Proofs.YtjegncmkebbdfaaGreatDoor
open Go.RowKit
attribute [local simp] heap_drew
attribute [local go_sem ↓] run_eql_id run_neq_id
theorem valTH : ElemT Tryz.prog 49 46 4 32 := ElemT.mk' (z := .agg #[.int .i64 0, .int .i64 0, .int .i64 0, .int .i64 0]) Tryz.underlying49 (by kernel_rfl) rfl
theorem own_keptT {α : Type} {f : α → List Value} {s base : Nat} {e e' : TypeId} {w w' : World} {v : Value} {l : List α} {row : Option Nat} (h : Own f s e base w v l) (hg : w.grownBy w' row) (hr : ∀ k, row = some k → ∃ cs, w.heap[k]? = some (.cells cs e' (0, 0))) (hne : e ≠ e') : Own f s e base w' v l := h.kept hg (by
  cases hv : v.ownBlock with
  | none => exact .inl rfl
  | some k =>
    refine .inr fun e1 => ?_
    obtain ⟨cs, hc⟩ := hr k e1.symm
    obtain ⟨cs', hc'⟩ := own_type h hv
    rw [hc] at hc'
    injection hc' with hc'
    injection hc' with _ hc' _
    exact hne hc'.symm)
theorem blk_keptT {w w' : World} {row : Option Nat} {e' t : TypeId} {k : Nat} {cs : Array Value} (hk : w.heap[k]? = some (.cells cs t (0, 0))) (hg : w.grownBy w' row) (hr : ∀ j, row = some j → ∃ cs, w.heap[j]? = some (.cells cs e' (0, 0))) (hne : t ≠ e') : w'.heap[k]? = some (.cells cs t (0, 0)) := by
  refine (hg.block k (blk_lt hk) fun e => ?_).trans hk
  obtain ⟨cs', hc⟩ := hr k e.symm
  rw [hk] at hc
  injection hc with hc
  injection hc with _ hc _
  exact hne hc
theorem own_cap {α : Type} {f : α → List Value} {s base : Nat} {e : TypeId} {w : World} {A : Option Addr} {n c : Nat} {l : List α} (h : Own f s e base w (.slice A n c) l) : l.length ≤ c ∧ c ≤ maxLen := by
  rcases h.form with ⟨hv, rfl⟩ | ⟨g, cap, hv, hg, hgl, hlc, hcm⟩
  · injection hv with h1 h2 h3
    subst h3
    exact ⟨Nat.zero_le _, by unfold maxLen; omega⟩
  · injection hv with h1 h2 h3
    subst h3
    exact ⟨hlc, hcm⟩
/-- What Of keeps while it goes over the objects. -/
structure OfI (base g2 g3 N : Nat) (L : List NodeC) (WA : Option Addr) (wc : Nat) (o : List NodeE) (OA : Option Addr) (OC : Nat) (w0 w : World) : Prop where
  b : Below base w0 w
  z : base ≤ w.heap.size
  r2 : w.heap[g2]? = some (.cells #[.slice none 0 0] 27 (0, 0))
  r3 : w.heap[g3]? = some (.cells #[.slice OA o.length OC] 27 (0, 0))
  og : OwnG base w OA OC o
  ws : Own W64.cells 1 34 base w (.slice WA N wc) (adsL (offW L) N)
theorem OfI.below {base g2 g3 N : Nat} {L : List NodeC} {WA : Option Addr} {wc : Nat} {o : List NodeE} {OA : Option Addr} {OC : Nat} {w0 w w' : World} (h : OfI base g2 g3 N L WA wc o OA OC w0 w) (hb : Below w.heap.size w w') : OfI base g2 g3 N L WA wc o OA OC w0 w' :=
  ⟨h.b.trans (hb.mono h.z), Nat.le_trans h.z hb.size, blk_below h.r2 hb, blk_below h.r3 hb, h.og.below hb, h.ws.below hb⟩
def OfPost (L : List NodeC) (w : World) (r : Ending) (w' : World) : Prop := ∃ (o : List NodeE) (OA : Option Addr) (OC : Nat), Hid (conL o = L) ∧ r = .returned (.agg #[.slice OA o.length OC]) ∧ NodesAt w' OA o ∧ Below w.heap.size w w'
set_option maxRecDepth 100000 in
set_option maxHeartbeats 16000000 in
theorem of_any {b0 : Nat} {P : HpE} {L : List NodeC} (w : World) (hv : ∀ n ∈ L, NodeOk n) (H : HpAt b0 w P) (hws : P.M.ws = setG L L.length) (hst : ∀ n ∈ L, n.kind = 3 → 1 ≤ n.clas) (hrefs : ∀ n ∈ L, ∀ f ∈ n.fields, f.kind = 2 → ∃ m ∈ L, m.id = f.ref) (hs : SortedN L) (hl : L.length ≤ 1000) :
    Calls Tryz.prog 16 #[spP P.gh] w (OfPost L w) := by
  have hobs : ∀ j n, L[j]? = some n → ObjAt P.M.ws (offW L j) (hdF n) n.id := fun j n hn => by rw [hws]; exact setG_objs hv L.length (Nat.le_refl _) j n hn
  have hk4 : ∀ j n, L[j]? = some n → (hdF n).kind ≠ 4 := fun j n hn => (hdF_ok (hv n (List.mem_of_getElem? hn))).2
  have HOb : ∀ u [Later w u], Calls Tryz.prog 41 #[spP P.gh] u fun r w' => ∃ A c, r = .returned (.slice A L.length c) ∧ Own W64.cells 1 34 u.heap.size w' (.slice A L.length c) (adsL (offW L) L.length) ∧ Below u.heap.size u w' := fun u i => hobjects_any u (H.later u) (by rw [hws]; exact setG_row hv) (by omega) (fun j hj => by
    have hn := List.getElem?_eq_getElem hj
    exact ⟨_, _, hobs j _ hn, hk4 j _ hn⟩)
  have HHd : ∀ j n, L[j]? = some n → ∀ u [Later w u], Calls Tryz.prog 42 #[spP P.gh, .int .u64 (adW (offW L j))] u fun r w' => r = .returned (.tuple #[.agg #[.int .i64 n.kind, .int .i64 n.clas, .int .i64 n.fields.length], .int .i64 0]) ∧ Below u.heap.size u w' := fun j n hn u i => by
    have := hHeader_any (H.later u) (hobs j n hn) (hk4 j n hn)
    rw [hdF_eq (hst n (List.mem_of_getElem? hn))] at this
    exact this
  have HId : ∀ j n, L[j]? = some n → ∀ u [Later w u], Calls Tryz.prog 40 #[spP P.gh, .int .u64 (adW (offW L j))] u fun r w' => r = .returned (.tuple #[.agg #[.int .i64 n.iDMachine, .int .i64 n.iDSerial], .int .i64 0]) ∧ Below u.heap.size u w' := fun j n hn u i => hID_any (H.later u) (hobs j n hn) (hk4 j n hn)
  have hvw : ∀ n ∈ L, ∀ v ∈ n.fields, ValW P.M.ws (fldW L v) := fun n hn v hvf => by
    rw [hws]
    exact fldW_val hv (setG_objs hv L.length (Nat.le_refl _)) (hrefs n hn v hvf)
  have HGt : ∀ j n, L[j]? = some n → ∀ (m : Nat) (v : ValE), n.fields[m]? = some v → ∀ u [Later w u], Calls Tryz.prog 43 #[spP P.gh, .int .u64 (adW (offW L j)), .int .i64 (m : Int)] u fun r w' => r = .returned (.tuple #[.int .u64 (fldW L v), .int .i64 0]) ∧ Below u.heap.size u w' := fun j n hn m v hm u i => by
    have hlt := (List.getElem?_eq_some_iff.1 hm).1
    have hnm := List.mem_of_getElem? hn
    have hg := setG_get hv L.length (Nat.le_refl _) j n (List.getElem?_eq_some_iff.1 hn).1 hn m hlt
    rw [List.getD_eq_getElem?_getD, hm, ← hws] at hg
    exact hGet_any (H.later u) (hobs j n hn) (hdF_stands (hv n hnm) (by omega)) (by rw [hdF_fields]; omega) hg (hvw n hnm v (List.mem_of_getElem? hm))
  have HVa : ∀ n ∈ L, ∀ v ∈ n.fields, ∀ u [Later w u], Calls Tryz.prog 15 #[spP P.gh, .int .u64 (fldW L v)] u fun r w' => r = .returned v.v ∧ Below u.heap.size u w' := fun n hn v hvf u i => shapeValue_put hv (H.later u) hws ((hv n hn).parts.1 v hvf) (hrefs n hn v hvf)
  have hkn : ∀ n ∈ L, 0 < n.fields.length → n.kind ≠ 3 := fun n hn h0 h3 => by
    rcases (hv n hn).kinds with ⟨hk, -⟩ | ⟨hk, -⟩ | ⟨-, -, -, h⟩
    · rcases hk with hk | hk <;> omega
    · omega
    · omega
  have hf30 : ∀ n ∈ L, n.fields.length ≤ 30 := fun n hn => by
    rcases (hv n hn).kinds with ⟨-, -, -, h⟩ | ⟨-, -, h⟩ | ⟨-, -, -, h⟩ <;> omega
  unfold OfPost
  clear hvw hobs hk4 hws hst hrefs H hv
  obtain ⟨N, hN⟩ : ∃ N, N = L.length := ⟨_, rfl⟩
  rw [← hN] at HOb hl
  have HN := hide hN
  clear hN
  have lww : Later w w := Later.refl
  go_enter Tryz.func16, Tryz.ntmps16
  go_upto_region 2 with fail
  refine wp_name ?_
  intro w0 hw0
  obtain ⟨B2, B3, l0⟩ := box2 hw0
  have lw0 : Later w w0 := l0 w
  have l00 : Later w0 w0 := Later.refl
  clear hw0
  obtain ⟨g2, hg2⟩ : ∃ g, g = w.heap.size := ⟨_, rfl⟩
  obtain ⟨g3, hg3⟩ : ∃ g, g = w.heap.size + 1 := ⟨_, rfl⟩
  rw [← hg2] at B2
  rw [← hg3] at B3
  rw [← hg3, ← hg2]
  have h2w : w.heap.size ≤ g2 := by omega
  have h3w : w.heap.size ≤ g3 := by omega
  have h23 : g2 ≠ g3 := by omega
  clear hg2 hg3
  go_wp2_with (go_at_call 41; refine (HOb _).mono ?_; rintro r w1 ⟨WA, wc, rfl, hwo, hb1⟩; have l1 := later hb1)
  have l01 : Below w0.heap.size w0 w1 := below_of
  have hI1 : OfI w.heap.size g2 g3 N L WA wc [] none 0 w w1 := ⟨lw0.below.trans (l01.mono lw0.below.size), Nat.le_trans lw0.below.size l01.size, (B2 w1).1, (B3 w1).1, OwnG.nil, hwo.mono lw0.below.size⟩
  clear B2 B3 l1 l0 l00 lw0 hb1 hwo l01
  go_loopw [17] (fun kv wr => ∃ (o : List NodeE) (OA : Option Addr) (OC : Nat), o.length ≤ N ∧ kv = .int .i64 o.length ∧ Hid (conL o = L.take o.length) ∧ OfI w.heap.size g2 g3 N L WA wc o OA OC w wr) (fun kv _ => N - (intOf kv).toNat)
  case atStart => exact ⟨[], none, 0, Nat.zero_le _, rfl, hide rfl, hI1⟩
  clear hI1
  case round =>
    obtain ⟨o, OA, OC, hk, rfl, hcon, hI⟩ := hrel
    have lwr : Later w wr := ⟨hI.b⟩
    have lrr : Later wr wr := Later.refl
    by_cases hlt : o.length < N
    rotate_left
    · have hk' : o.length = N := by omega
      have hL := hide (show conL o = L by rw [hcon.out, hk', HN.out, List.take_length])
      have B3 := boxed hI.r3
      have B2 := boxed hI.r2
      have HS := sortSame OA OC o w.heap.size wr hI.og.s (by rw [hL.out]; exact hs) (by omega) hI.z
      have hki : ¬ (o.length : Int) < (N : Int) := by omega
      clear hk'
      go_upto_region 16 with (go_at_call 44; refine HS.mono ?_; rintro r w5 ⟨rfl, ho5, hb5, hg5⟩)
      have hr5 : ∀ k, (Value.slice OA o.length OC).ownBlock = some k → ∃ cs, wr.heap[k]? = some (.cells cs 51 (0, 0)) := fun k h => own_type hI.og.s h
      have R2 := blk_keptT hI.r2 hg5 hr5 (by decide)
      have R3 := blk_keptT hI.r3 hg5 hr5 (by decide)
      have og5 : OwnG w.heap.size w5 OA OC o := ⟨ho5, fun m hm => own_keptT (hI.og.f m hm) hg5 hr5 (by decide), hI.og.c⟩
      have D2 := boxed R2
      have D3 := boxed R3
      have hbw5 : Below w.heap.size w w5 := hI.b.trans hb5
      have l55 : Later w5 w5 := Later.refl
      clear B2 B3 hg5 hr5 HS
      go_wp2_with fail
      generalize hw9 : World.setCell _ _ _ = w9
      have B9 := boxed_set D2 hw9
      have og9 : OwnG w.heap.size w9 OA OC o := by rw [← hw9]; exact og5.set R2 0 _
      have hbw9 : Below w.heap.size w w9 := by rw [← hw9]; exact hbw5.setCell h2w _
      have l99 : Later w9 w9 := Later.refl
      have r0 := ((B9 w9).2 0).1
      refine bodyPost_ret (v := .agg #[.slice OA o.length OC]) (by simp [results, Tryz.results16, go_sem, r0]) rfl ⟨o, OA, OC, hL, rfl, og9.nodes, hbw9⟩
    obtain ⟨n, hn⟩ : ∃ n, L[o.length]? = some n := ⟨_, List.getElem?_eq_getElem (by have := HN.out; omega)⟩
    have hnm := List.mem_of_getElem? hn
    have hn30 := hf30 n hnm
    have hkn' := hkn n hnm
    have Hn := hide hn
    have HHd' := HHd _ n hn
    have HId' := HId _ n hn
    have HGt' := HGt _ n hn
    have HVa' := HVa n hnm
    obtain ⟨gw, rfl⟩ := hI.ws.isSome (by intro e; have h9 := congrArg List.length e; rw [adsL_len] at h9; have h8 : ([] : List Int).length = 0 := rfl; omega)
    obtain ⟨aw, haw⟩ : ∃ a, a = adW (offW L o.length) := ⟨_, rfl⟩
    rw [← haw] at HHd' HId' HGt'
    have CW : ∀ u [Later wr u], u.cell? ⟨gw, o.length, none⟩ = some (.int .u64 aw) := fun u i => by
      have := (hI.ws.below i.below).cell W64.enc (k := o.length) (x := aw) (by unfold adsL; rw [List.getElem?_map, List.getElem?_range hlt, haw]; rfl) (j := 0) rfl
      simpa using this
    have hki : (o.length : Int) < (N : Int) := by omega
    clear haw hn HHd HId HGt HVa HOb hkn hf30
    go_upto_region 6 with (go_at_call 42; refine (HHd' _).mono ?_; rintro r w2 ⟨rfl, hb2⟩; have l2 := later hb2)
    refine wp_name ?_
    intro w3 hw3
    obtain ⟨B6, l3⟩ := box1 hw3
    have l33 : Later w3 w3 := Later.refl
    have lr3 : Later wr w3 := by infer_instance
    have lw3 : Later w w3 := by infer_instance
    clear hw3 l2 l3
    go_upto_region 7 with (go_at_call 40; refine (HId' _).mono ?_; rintro r w4 ⟨rfl, hb4⟩; have l4 := later hb4)
    refine wp_name ?_
    intro w5 hw5
    obtain ⟨B8, l5⟩ := box1 hw5
    have l55 : Later w5 w5 := Later.refl
    have lr5 : Later wr w5 := by infer_instance
    have lw5 : Later w w5 := by infer_instance
    have l35 : Later w3 w5 := by infer_instance
    clear hw5 l4 l5
    go_upto_region 8 with fail
    refine wp_name ?_
    intro w7 hw7
    obtain ⟨B10, l7⟩ := box1 hw7
    have l77 : Later w7 w7 := Later.refl
    have l57 : Later w5 w7 := l7 w5
    have lr7 : Later wr w7 := lr5.trans l57
    have lw7 : Later w w7 := lw5.trans l57
    have l37 : Later w3 w7 := l35.trans l57
    clear hw7 l7
    obtain ⟨gN, hgN⟩ : ∃ g, g = w5.heap.size := ⟨_, rfl⟩
    rw [← hgN] at B10 ⊢
    have hgNw : w.heap.size ≤ gN := by rw [hgN]; exact lw5.below.size
    have HgN := hide hgN
    have hI5 := hI.below lr5.below
    have V0 := (B10 w7).1
    have hb57 := l57.below
    obtain ⟨g6, hg6⟩ : ∃ g, g = w2.heap.size := ⟨_, rfl⟩
    rw [← hg6] at B6 ⊢
    have D6 := boxed (B6 w5).1
    clear hgN hg6 B6 B8 B10 hI CW HHd' HId' lr7 lw7 l37 l77 l57 lr3 lw3 l33 hb2 hb4
    go_wp2_with fail
    go_loopw [11] (fun iv w' => ∃ (q : List ValE) (A : Option Addr) (c : Nat), q.length ≤ n.fields.length ∧ iv = .int .i64 q.length ∧ Hid (q = n.fields.take q.length) ∧ w'.heap[gN]? = some (.cells #[.int .i64 n.iDMachine, .int .i64 n.iDSerial, .int .i64 n.kind, .int .i64 n.clas, .slice A q.length c] 51 (0, 0)) ∧ Own ValE.cells 4 46 gN w' (.slice A q.length c) q ∧ Below w5.heap.size w5 w') (fun iv _ => n.fields.length - (intOf iv).toNat)
    case atStart => exact ⟨[], none, 0, Nat.zero_le _, rfl, hide rfl, V0, Own.nil, hb57⟩
    clear V0 hb57
    case round =>
      obtain ⟨q, QA, QC, hq, rfl, hqt, hV, hoV, hb⟩ := hrel
      have l5r : Later w5 wr := ⟨hb⟩
      have lwr2 : Later w wr := lw5.trans l5r
      have lrr : Later wr wr := Later.refl
      have BN := boxed hV
      by_cases hlt2 : q.length < n.fields.length
      · obtain ⟨v, hvm⟩ : ∃ v, n.fields[q.length]? = some v := ⟨_, List.getElem?_eq_getElem hlt2⟩
        have hk3 : (n.kind != 3) = true := by rw [bne_iff_ne]; exact hkn' (by omega)
        have HG := HGt' q.length v hvm
        have HV := HVa' v (List.mem_of_getElem? hvm)
        have Hvm := hide hvm
        obtain ⟨yw, hyw⟩ : ∃ y, y = fldW L v := ⟨_, rfl⟩
        rw [← hyw] at HG HV
        have hqi : (q.length : Int) < (n.fields.length : Int) := by omega
        clear hyw hvm HGt' HVa'
        go_upto_region 12 with (go_at_call 43; refine (HG _).mono ?_; rintro r w3 ⟨rfl, hb3⟩; have l3 := later hb3)
        have hbr3 : Below wr.heap.size wr w3 := below_of
        have hfo3 := hoV.below hbr3
        have bO3 := blk_below hV hbr3
        have hbw3 : Below w.heap.size w w3 := lwr2.below.trans (hbr3.mono lwr2.below.size)
        have hb53 : Below w5.heap.size w5 w3 := hb.trans (hbr3.mono hb.size)
        have hz3 : gN ≤ w3.heap.size := by rw [HgN.out]; exact hb53.size
        obtain ⟨OA, hOA⟩ : ∃ x, x = QA := ⟨_, rfl⟩
        obtain ⟨OC, hOC⟩ : ∃ x, x = QC := ⟨_, rfl⟩
        rw [← hOA, ← hOC] at hfo3 bO3
        clear hOA hOC BN hV hoV l3 hb3 hI5 lrr HG
        obtain ⟨row, hrowe⟩ : ∃ r, r = (Value.slice OA q.length OC).ownBlock := ⟨_, rfl⟩
        have hrow : ∀ k, row = some k → k < w3.heap.size := fun k hk => (World.ownsRow.lt hfo3 k (hrowe ▸ hk)).2
        have hrowB : ∀ k, row = some k → gN ≤ k := fun k hk => (World.ownsRow.lt hfo3 k (hrowe ▸ hk)).1
        have hOld : ∀ u, w3.drew.grownBy u row → ∀ (k : Nat) (cs : Array Value) (t : TypeId), w3.heap[k]? = some (.cells cs t (0, 0)) → 46 ≠ t → u.heap[k]? = some (.cells cs t (0, 0)) := fun u hu k cs t hk ht => (hu.block k (blk_lt hk) (fun e => own_off hfo3 hk ht (by rw [← hrowe]; exact e.symm))).trans hk
        have HO : ∀ u, w3.drew.grownBy u row → u.heap[gN]? = _ := fun u hu => hOld u hu _ _ _ bO3 (by decide)
        have HVu : ∀ u, w3.drew.grownBy u row → Calls Tryz.prog 15 #[spP P.gh, .int .u64 yw] u fun r w' => r = .returned v.v ∧ Below u.heap.size u w' := fun u hu => by
          have : Later w u := ⟨hbw3.drew.grown hu (by exact hbw3.size) (fun k hk => Nat.le_trans hgNw (hrowB k hk))⟩
          exact HV u
        have hql : q.length ≤ 30 := by omega
        refine wp_region_invA (last := 8) (ap := 6) (row := row) (by kernel_rfl) (R := specRA [.is (.pointer (some ⟨gN, 4, none⟩)), .is (.slice OA q.length OC), .is (spP P.gh), .is (.int .u64 yw), .is v.v, SpecA.blk hrow (fun g => .slice (some ⟨g, 0, none⟩) 1 1) v.arr 46, .any, .is (.pointer (some ⟨gN, 4, none⟩))]) (J := appG ValE.cells 4 46 gN q v OA OC) (specRA_mono (B := w3.heap.size) (row := row) _) (appG_mono _ _ _ _ _ _ _ _) (by kernel_rfl) (by kernel_rfl) (by kernel_rfl) (Own.below hfo3 (Below.refl _ _).drew) (steps_all ?_) ?_ ?_ (fun h => absurd h (by decide))
        · refine ⟨?_, ?_, ?_, ?_, ?_, ?_, ?_, ?_, ?_, trivial⟩
          · intro hne hne2 a u lu hN hO K hK
            (try simp only [Nat.zero_add, Nat.reduceAdd] at hN hK)
            have e0 : a.tmps.getD 10 undef = .pointer (some ⟨gN, 0, none⟩) := (hO 10 (out_get (by kernel_rfl))).trans rfl
            simp only [Array.getD_eq_getD_getElem?] at e0
            rw [if_pos (by rfl)]
            go_simp
            exact hK _ _ Later.refl rfl
          · intro hne hne2 a u lu hN hO K hK
            (try simp only [Nat.zero_add, Nat.reduceAdd] at hN hK)
            have e0 : a.tmps.getD 57 undef = .pointer (some ⟨gN, 4, none⟩) := hN 0 (needs_get (by kernel_rfl))
            simp only [Array.getD_eq_getD_getElem?] at e0
            have X := boxed (HO u lu)
            have luu : Later u u := Later.refl
            rw [if_pos (by rfl)]
            go_simp
            exact hK _ _ Later.refl rfl
          · intro hne hne2 a u lu hN hO K hK
            (try simp only [Nat.zero_add, Nat.reduceAdd] at hN hK)
            have e0 : a.tmps.getD 0 undef = spP P.gh := (hO 0 (out_get (by kernel_rfl))).trans rfl
            simp only [Array.getD_eq_getD_getElem?] at e0
            rw [if_pos (by rfl)]
            go_simp
            exact hK _ _ Later.refl rfl
          · intro hne hne2 a u lu hN hO K hK
            (try simp only [Nat.zero_add, Nat.reduceAdd] at hN hK)
            have e0 : a.tmps.getD 12 undef = .int .u64 yw := (hO 12 (out_get (by kernel_rfl))).trans rfl
            simp only [Array.getD_eq_getD_getElem?] at e0
            rw [if_pos (by rfl)]
            go_simp
            exact hK _ _ Later.refl rfl
          · intro hne hne2 a u lu hN hO K hK
            (try simp only [Nat.zero_add, Nat.reduceAdd] at hN hK)
            have e0 : a.tmps.getD 59 undef = spP P.gh := hN 2 (needs_get (by kernel_rfl))
            simp only [Array.getD_eq_getD_getElem?] at e0
            have e1 : a.tmps.getD 60 undef = .int .u64 yw := hN 3 (needs_get (by kernel_rfl))
            simp only [Array.getD_eq_getD_getElem?] at e1
            rw [if_pos (by rfl)]
            go_simp
            refine (HVu u lu).mono ?_
            rintro q u' ⟨rfl, hb⟩
            exact hK _ _ ⟨hb⟩ rfl
          · intro hne hne2 a u lu hN hO K hK
            (try simp only [Nat.zero_add, Nat.reduceAdd] at hN hK)
            have e0 : a.tmps.getD 61 undef = v.v := hN 4 (needs_get (by kernel_rfl))
            simp only [Array.getD_eq_getD_getElem?] at e0
            rw [if_pos (by rfl)]
            go_simp
            exact hK _ _ inferInstance ⟨u.heap.size, lu.size, rfl, heap_alloc_new _ _⟩
          · intro hne hne2 a u lu hN hO K hK
            (try simp only [Nat.zero_add, Nat.reduceAdd] at hN hK)
            exact absurd rfl hne2
          · intro hne hne2 a u lu hN hO K hK
            (try simp only [Nat.zero_add, Nat.reduceAdd] at hN hK)
            have e0 : a.tmps.getD 10 undef = .pointer (some ⟨gN, 0, none⟩) := (hO 10 (out_get (by kernel_rfl))).trans rfl
            simp only [Array.getD_eq_getD_getElem?] at e0
            rw [if_pos (by rfl)]
            go_simp
            exact hK _ _ Later.refl rfl
          · intro hne hne2 a u lu hN hO K hK
            (try simp only [Nat.zero_add, Nat.reduceAdd] at hN hK)
            exact absurd rfl hne
        · intro op hop
          simp only [List.getElem?_toArray, List.getElem?_cons_succ, List.getElem?_cons_zero] at hop
          injection hop with hop
          subst hop
          intro a u lu hst hN hO K hK
          have e1 : a.tmps.getD 58 undef = .slice OA (q).length OC := hN 1 (needs_get (by kernel_rfl))
          obtain ⟨gq, hgB, e4, hq⟩ : ∃ g, w3.heap.size ≤ g ∧ a.tmps.getD 62 undef = .slice (some ⟨g, 0, none⟩) 1 1 ∧ u.heap[g]? = some (.cells v.arr 46 (0, 0)) := hN 5 (needs_get (by kernel_rfl))
          refine step_app2 (P := Tryz.prog) rfl (.tmp 58) (.tmp 62) (by rfl) ValE.enc valTH _ _ [v] (q) (.slice OA (q).length OC) e1 e4 (m := 1) (n := (q).length + 1) rfl rfl hst (blk_slAt ValE.enc (fr := (0, 0)) (e := 46) hq [v] rfl) (by omega) (by unfold maxLen; omega) (Nat.le_trans hz3 lu.size) ?_
          intro A' c' u' ho' hm' hst'
          exact hK _ u' (by rw [hrowe]; exact hst'.1) trivial ⟨A', c', rfl, ho'⟩
        intro op hop a u hJ K hK
        simp only [List.getElem?_toArray, List.getElem?_cons_succ, List.getElem?_cons_zero] at hop
        injection hop with hop
        subst hop
        have e6 : a.tmps.getD 64 undef = .pointer (some ⟨gN, 4, none⟩) := hJ.got 7 (by decide) rfl
        obtain ⟨A', c', e5, ho5⟩ : ∃ A' c', a.tmps.getD 63 undef = .slice A' (q.length + 1) c' ∧ Own ValE.cells 4 46 gN u (.slice A' (q.length + 1) c') (q ++ [v]) := hJ.st
        have hgu := hJ.grown
        have hdf : a.defers = [] := hJ.defers.trans rfl
        have luu : Later u u := Later.refl
        have bOu := HO u hgu
        have XO := boxed bOu
        simp only [Array.getD_eq_getD_getElem?] at e5 e6
        rw [if_pos (by rfl)]
        go_simp
        refine hK _ _ ?_
        have hTm := tmps_of (L := [57, 58, 59, 60, 61, 62, 63, 64]) hJ.size (fun t ht => hJ.out t (fun hm => ht hm))
        clear hK K e5 e6 hJ
        obtain ⟨atm, adf⟩ := a
        dsimp only at hTm hdf
        subst hdf
        simp only [List.foldl_cons, List.foldl_nil, List.setIfInBounds_toArray, List.set_cons_succ, List.set_cons_zero] at hTm
        generalize atm.getD 57 undef = v0 at hTm
        generalize atm.getD 58 undef = v1 at hTm
        generalize atm.getD 59 undef = v2 at hTm
        generalize atm.getD 60 undef = v3 at hTm
        generalize atm.getD 61 undef = v4 at hTm
        generalize atm.getD 62 undef = v5 at hTm
        generalize atm.getD 63 undef = v6 at hTm
        generalize atm.getD 64 undef = v7 at hTm
        subst hTm
        obtain ⟨wE, hwE⟩ : ∃ z, z = u.setCell ⟨gN, 4, none⟩ (.slice A' (q.length + 1) c') := ⟨_, rfl⟩
        have VE : wE.heap[gN]? = some (.cells #[.int .i64 n.iDMachine, .int .i64 n.iDSerial, .int .i64 n.kind, .int .i64 n.clas, .slice A' (q.length + 1) c'] 51 (0, 0)) := by rw [hwE]; exact blk_set bOu 4 _
        have OE : Own ValE.cells 4 46 gN wE (.slice A' (q.length + 1) c') (q ++ [v]) := by rw [hwE]; exact ho5.far (p := ⟨gN, 4, none⟩) (own_off ho5 bOu (by decide)) _
        have BE : Below w5.heap.size w5 wE := by
          rw [hwE]
          exact (hb53.drew.grown hgu (by exact hb53.size) (fun k hk => by rw [← HgN.out]; exact hrowB k hk)).setCell (p := ⟨gN, 4, none⟩) (by rw [← HgN.out]; exact Nat.le_refl _) _
        have hqE := hide (show q ++ [v] = n.fields.take (q.length + 1) by rw [List.take_add_one, ← hqt.out, Hvm.out]; rfl)
        rw [← hwE]
        clear hwE XO bOu ho5 hgu HO HVu HV hOld
        go_wp2_with fail
        go_roundw
        case rel => exact ⟨q ++ [v], A', c', by rw [List.length_append, List.length_singleton]; omega, by rw [List.length_append, List.length_singleton]; go_num, by rw [List.length_append, List.length_singleton]; exact hqE, by rw [List.length_append, List.length_singleton]; exact VE, by rw [List.length_append, List.length_singleton]; exact OE, BE⟩
        case measure => simp [intOf]; omega
      · have hq' : q.length = n.fields.length := by omega
        have hqn := hide (show q = n.fields by have := hqt.out; rw [hq', List.take_length] at this; exact this)
        have hqi : ¬ (q.length : Int) < (n.fields.length : Int) := by omega
        have hIr := hI5.below hb
        have B3 := boxed hIr.r3
        have hqc := own_cap hoV
        clear hq'
        go_upto_region 14 with (at_builtin; refine wpList_app1 rfl (.tmp 66) (.tmp 68) rfl NodeE.enc nodeT (⟨n.iDMachine, n.iDSerial, n.kind, n.clas, QA, QC, q⟩ : NodeE) rfl rfl rfl hIr.og.s (by rfl) (by omega) (by unfold maxLen; omega) hIr.z ?_; intro A9 c9 w9 ho9 hm9 hb9 hg9 hat9; have R3 := blk_keptT hIr.r3 hg9 (fun k h => own_type hIr.og.s h) (by decide); have D3 := boxed R3; have l99 : Later w9 w9 := Later.refl)
        refine wp_name ?_
        intro wE hwE
        have hr9 : ∀ k, (Value.slice _ o.length _).ownBlock = some k → ∃ cs, wr.heap[k]? = some (.cells cs 51 (0, 0)) := fun k h => own_type hIr.og.s h
        have R2 := blk_keptT hIr.r2 hg9 hr9 (by decide)
        have og9 : OwnG w.heap.size w9 A9 c9 (o ++ [⟨n.iDMachine, n.iDSerial, n.kind, n.clas, QA, QC, q⟩]) := ⟨by rw [List.length_append, List.length_singleton]; exact ho9, fun m hm => by
          rcases List.mem_append.1 hm with hm | hm
          · exact own_keptT (hIr.og.f m hm) hg9 hr9 (by decide)
          · rw [List.mem_singleton] at hm
            subst hm
            exact own_keptT (hoV.mono hgNw) hg9 hr9 (by decide), fun m hm => by
          rcases List.mem_append.1 hm with hm | hm
          · exact hIr.og.c m hm
          · rw [List.mem_singleton] at hm
            subst hm
            exact hqc⟩
        have hIE : OfI w.heap.size g2 g3 N L (some ⟨gw, 0, none⟩) wc (o ++ [⟨n.iDMachine, n.iDSerial, n.kind, n.clas, QA, QC, q⟩]) A9 c9 w wE := by
          rw [← hwE]
          refine ⟨(hIr.b.trans hb9).setCell (p := ⟨g3, 0, none⟩) h3w _, ?_, (blk_far (p := ⟨g3, 0, none⟩) h23 _).trans R2, ?_, og9.set R3 0 _, (own_keptT hIr.ws hg9 hr9 (by decide)).far (p := ⟨g3, 0, none⟩) (own_off (own_keptT hIr.ws hg9 hr9 (by decide)) R3 (by decide)) _⟩
          · have h1 := hg9.size
            have h2 := hIr.z
            simp only [World.setCell] at h1 ⊢
            first | omega | (simp; omega)
          · have := blk_set R3 0 (.slice A9 (o.length + 1) c9)
            rw [List.length_append, List.length_singleton]
            exact this
        have hconE := hide (show conL (o ++ [⟨n.iDMachine, n.iDSerial, n.kind, n.clas, QA, QC, q⟩]) = L.take (o.length + 1) by
          rw [show conL (o ++ [⟨n.iDMachine, n.iDSerial, n.kind, n.clas, QA, QC, q⟩]) = conL o ++ [⟨n.iDMachine, n.iDSerial, n.kind, n.clas, q⟩] by unfold conL; rw [List.map_append]; rfl, hcon.out, List.take_add_one, Hn.out, hqn.out]
          rfl)
        clear hwE og9 R2 R3 D3 B3 BN hg9 hb9 ho9 hat9 hm9 hr9
        go_wp2_with fail
        go_roundw
        case rel => exact ⟨o ++ [⟨n.iDMachine, n.iDSerial, n.kind, n.clas, QA, QC, q⟩], A9, c9, by rw [List.length_append, List.length_singleton]; omega, by rw [List.length_append, List.length_singleton]; go_num, by rw [List.length_append, List.length_singleton]; exact hconE, hIE⟩
        case measure => simp [intOf]; omega
end Go.Proofs.YtjegncmkebbdfaaGreatDoor

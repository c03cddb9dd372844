/-
  Small texts of this seat, put into one. Conditions stand in each theorem.
-/
import Derived.Test.YtjegncmkebbdfaaGreatDoorGrp64
import Derived.Test.YtjegncmkebbdfaaGreatDoorGrp56
import Derived.Test.YtjegncmkebbdfaaGreatDoorGrp61
import Derived.Test.YtjegncmkebbdfaaGreatDoorGrp67
import Derived.Test.YtjegncmkebbdfaaGreatDoorF16Union
import Derived.Test.YtjegncmkebbdfaaGreatDoorGrp70
set_option linter.unusedSimpArgs false
set_option linter.unusedVariables false
namespace Go.Proofs.YtjegncmkebbdfaaGreatDoor
open Go.RowKit
/-! ### What is read back: plain -/
theorem setN_other {L : List NodeC} {i : Nat} {fs : List ValE} {p : Nat} : ∀ {m : Nat} {ws : List Int}, (p < offW L i + 2 ∨ offW L i + 2 + m ≤ p) → (setN L ws i fs m)[p]? = ws[p]?
  | 0, _, _ => rfl
  | m + 1, ws, h => by
    unfold setN
    rw [List.getElem?_set, if_neg (by omega)]
    exact setN_other (by omega)
theorem setN_get {L : List NodeC} {ws : List Int} {i : Nat} {fs : List ValE} : ∀ {m : Nat}, offW L i + 2 + m ≤ ws.length → ∀ m', m' < m → (setN L ws i fs m)[offW L i + 2 + m']? = some (fldW L (fs.getD m' ⟨0, 0, 0, 0⟩))
  | 0, _, m', h => absurd h (by omega)
  | m + 1, hl, m', h => by
    unfold setN
    rw [List.getElem?_set, setN_len]
    rcases Nat.lt_or_ge m' m with h1 | h1
    · rw [if_neg (by omega)]
      exact setN_get (by omega) m' h1
    · have : m' = m := by omega
      subst this
      rw [if_pos rfl, if_pos (by omega)]
theorem offW_zero (L : List NodeC) : offW L 0 = 0 := rfl
theorem offW_all (L : List NodeC) : offW L L.length = (putW L).length := by unfold offW; rw [List.take_length]
theorem setG_get {L : List NodeC} (hv : ∀ n ∈ L, NodeOk n) : ∀ k, k ≤ L.length → ∀ (i : Nat) (n : NodeC), i < k → L[i]? = some n → ∀ m, m < n.fields.length → (setG L k)[offW L i + 2 + m]? = some (fldW L (n.fields.getD m ⟨0, 0, 0, 0⟩))
  | 0, _, i, n, hi, _, m, _ => absurd hi (by omega)
  | k + 1, hk, i, n, hi, hn, m, hm => by
    have hnk := List.getElem?_eq_getElem (l := L) (i := k) (by omega)
    have hd : L.getD k ⟨0, 0, 0, 0, []⟩ = L[k] := by rw [List.getD_eq_getElem?_getD, hnk]; rfl
    unfold setG
    rw [hd]
    rcases Nat.lt_or_ge i k with h1 | h1
    · rw [setN_other]
      · exact setG_get hv k (by omega) i n h1 hn m hm
      · have h2 := offW_succ hn
        rw [hdN_sz] at h2
        have h3 := offW_mono (l := L) (show i + 1 ≤ k by omega)
        omega
    · have : i = k := by omega
      subst this
      rw [hnk] at hn
      injection hn with hn
      rw [hn]
      refine setN_get ?_ m hm
      have h2 := offW_succ hnk
      rw [hdN_sz, hn] at h2
      have h3 := offW_mono (l := L) (show i + 1 ≤ L.length by omega)
      rw [offW_all] at h3
      rw [setG_len]
      omega
theorem setG_row {L : List NodeC} (hv : ∀ n ∈ L, NodeOk n) : RowObj (setG L L.length) (offW L) L.length := ⟨offW_zero L, by rw [offW_all, setG_len], fun j hj => by
  have hn := List.getElem?_eq_getElem hj
  exact ⟨_, _, setG_objs hv L.length (Nat.le_refl _) j _ hn, by rw [offW_succ hn, hdF_sz]⟩⟩
/-- The headers are the nodes' own, where a stub has a class. -/
theorem hdF_eq {n : NodeC} (h : n.kind = 3 → 1 ≤ n.clas) : hdF n = ⟨n.kind, n.clas, n.fields.length⟩ := by
  unfold hdF
  split
  · next hk =>
    have := h hk
    unfold hdN HdE.stub
    rw [if_pos hk, hk]
    simp only
    congr 1
    omega
  · next hk =>
    unfold hdN
    rw [if_neg hk]
theorem idxC_obj {L : List NodeC} {x : IDE} (h : ∃ n ∈ L, n.id = x) : ∃ n, L[idxC L x]? = some n ∧ n.id = x := idxC_mem h
/-- Value reads back what was put. -/
theorem shapeValue_put {base : Nat} {w : World} {P : HpE} {L : List NodeC} (hv : ∀ n ∈ L, NodeOk n) (H : HpAt base w P) (hws : P.M.ws = setG L L.length) {v : ValE} (hvv : validValB v = true) (hr : v.kind = 2 → ∃ n ∈ L, n.id = v.ref) :
    Calls Tryz.prog 15 #[spP P.gh, .int .u64 (fldW L v)] w fun r w' => r = .returned v.v ∧ Below w.heap.size w w' := by
  unfold validValB at hvv
  split at hvv
  · next h0 =>
    have he : v = ⟨0, 0, 0, 0⟩ := by
      unfold ValE.beq at hvv
      simp only [Bool.and_eq_true, beq_iff_eq, decide_eq_true_eq] at hvv
      cases v
      simp_all
    have hf : fldW L v = 0 := by unfold fldW; rw [if_neg (by omega), if_neg (by omega)]
    rw [hf]
    have := @shapeValue_no w P.gh 0 (by unfold WordOk; omega) (by decide)
    rw [if_neg (by decide)] at this
    rw [he]
    exact this
  · next h0 =>
    split at hvv
    · next h1 =>
      simp only [Bool.and_eq_true, decide_eq_true_eq] at hvv
      obtain ⟨hr0, hi1, hi2⟩ := hvv
      have hf : fldW L v = encN v.int := by unfold fldW; rw [if_pos h1]
      have hm := (encN_ok v.int).2
      have := @shapeValue_no w P.gh (encN v.int) (encN_ok v.int).1 (kindW_of (.inr hm))
      rw [if_pos hm, encN_int hi1 hi2] at this
      rw [hf]
      have he : v = ⟨1, v.int, 0, 0⟩ := by
        obtain ⟨a, b, c, d⟩ := v
        unfold ValE.ref at hr0
        injection hr0 with e1 e2
        simp only at h1 e1 e2
        subst h1 e1 e2
        rfl
      rw [he]
      exact this
    · next h1 =>
      split at hvv
      · next h2 =>
        simp only [Bool.and_eq_true, decide_eq_true_eq] at hvv
        obtain ⟨n, hn, hx⟩ := idxC_mem (hr h2)
        have ho := setG_objs hv L.length (Nat.le_refl _) _ n hn
        have hf : fldW L v = adW (offW L (idxC L v.ref)) := by unfold fldW; rw [if_neg h1, if_pos h2]
        rw [hf]
        have := shapeValue_ad H (by rw [hws]; exact ho) (hdF_ok (hv n (List.mem_of_getElem? hn))).2
        rw [hx] at this
        have he : v = ⟨2, 0, v.ref.machine, v.ref.serial⟩ := by
          obtain ⟨a, b, c, d⟩ := v
          have e2 := hvv.1
          simp only at h2 e2
          subst h2 e2
          rfl
        rw [he]
        exact this
      · cases hvv
end Go.Proofs.YtjegncmkebbdfaaGreatDoor

namespace Go.Proofs.YtjegncmkebbdfaaGreatDoor
open Go.RowKit Go.Shelf Go.Lib Go.Sort
attribute [local go_sem] Oper.semAt_some
attribute [local simp] heap_drew
def cmpVH (x y : NodeE) : Int := cmpJ x.id y.id
theorem cmpVH_swo : SWO (Go.Proofs.ltOf cmpVH) := ⟨fun x => cmpJ_swo.1 x.id, fun x y z => cmpJ_swo.2 x.id y.id z.id, fun x y z => cmpJ_swo.3 x.id y.id z.id⟩
theorem NodeE.oneH (x : NodeE) : ∀ v ∈ x.cells, v.oneCell' = true := by
  intro v hv
  simp only [NodeE.cells, List.mem_cons, List.not_mem_nil, or_false] at hv
  rcases hv with rfl | rfl | rfl | rfl | rfl <;> rfl
theorem srtH {l : List NodeE} (h : SortedN (conL l)) : Srt (Go.Proofs.ltOf cmpVH) l := by
  unfold SortedN ids conL SortedI at h
  rw [List.map_map, List.pairwise_map] at h
  refine h.imp ?_
  intro a b hab
  show Go.Proofs.ltOf cmpJ b.id a.id = false
  rw [cmpJ_lt]
  refine decide_eq_false ?_
  have hab : ltI a.id b.id := hab
  unfold ltI at hab
  omega
set_option maxHeartbeats 2000000 in
theorem insNil_N (fv : Value) (w : World) : Calls Tryz.prog 105 #[.slice none 0 0, .int .i64 0, .int .i64 0, fv] w fun e w' => e = .returned (.tuple #[]) ∧ Below w.heap.size w w' := by
  go_enter Tryz.func105, Tryz.ntmps105
  go_wp2_with fail
  go_loopg [8] 1 (fun kx s8 wr => s8 = .int .i64 1 ∧ w = wr)
  case atStart => exact ⟨rfl, rfl⟩
  case round =>
    obtain ⟨rfl, rfl⟩ := hrel
    go_wp2_with fail
    go_end0
    exact ⟨rfl, Below.refl _ _⟩
set_option maxHeartbeats 2000000 in
theorem stableNil_N (fv : Value) (w : World) : Calls Tryz.prog 92 #[.slice none 0 0, .int .i64 0, fv] w fun e w' => e = .returned (.tuple #[]) ∧ Below w.heap.size w w' := by
  go_enter Tryz.func92, Tryz.ntmps92
  go_wp2_with fail
  go_loopg [7, 8] 1 (fun kx s7 s8 wr => s7 = .int .i64 0 ∧ s8 = .int .i64 20 ∧ w = wr)
  case atStart => exact ⟨rfl, rfl, rfl⟩
  case round =>
    obtain ⟨rfl, rfl, rfl⟩ := hrel
    go_wp2_with (go_at_call 105; refine (insNil_N fv _).mono ?_; rintro e w1 ⟨rfl, hb1⟩)
    go_loopg [6] 1 (fun kx s6 wr => s6 = .int .i64 20 ∧ Below w.heap.size w wr)
    case atStart => exact ⟨rfl, hb1⟩
    case round =>
      obtain ⟨rfl, hb⟩ := hrel
      go_wp2_with fail
      go_end0
      exact ⟨rfl, hb⟩
set_option maxHeartbeats 2000000 in
/-- slices.SortStableFunc over a sorted slice of the call's own: nothing changes in it. -/
theorem sortSame (A : Option Addr) (c : Nat) (l : List NodeE) (base : Nat) (w : World) (hown : Own NodeE.cells 5 51 base w (.slice A l.length c) l) (hs : SortedN (conL l)) (hl : l.length ≤ 100000000000) (hbase : base ≤ w.heap.size) :
    Calls Tryz.prog 44 #[.slice A l.length c, .func (.func 26) #[] #[]] w fun e w' => e = .returned (.tuple #[]) ∧ Own NodeE.cells 5 51 base w' (.slice A l.length c) l ∧ Below base w w' ∧ w.grownBy w' (Value.slice A l.length c).ownBlock := by
  rcases hown.form with ⟨hv, rfl⟩ | ⟨g, cap, hv, hg, hgl, hlc, hcm⟩
  · injection hv with h1 h2 h3
    subst h1 h3
    go_enter Tryz.func44, Tryz.ntmps44
    go_wp2_with (go_at_call 92; refine (stableNil_N _ _).mono ?_; rintro e w1 ⟨rfl, hb1⟩)
    go_end0
    exact ⟨rfl, Own.nil, hb1.mono hbase, grown_below hb1 _⟩
  · injection hv with h1 h2 h3
    subst h1 h3
    have hcall := stable_NodeE cmpVH cmpVH_swo 26 #[] g 0 c l.toArray w (fun args w => by kernel_rfl) (fun m os dk _ x y => (compareN_any x y _).mono (by rintro e w' ⟨rfl, q, os', hw⟩; exact ⟨rfl, q, os', hw⟩)) ⟨NodeE.enc.len, NodeE.oneH, hown.holdsK NodeE.enc, hgl⟩ (by simp; omega)
    rw [List.size_toArray] at hcall
    have hcall := hcall.mono (fun e w' (h : e = .returned (.tuple #[]) ∧ _) => (⟨h.1, hide h.2⟩ : e = .returned (.tuple #[]) ∧ Hid _))
    have hll : l.length ≤ 9223372036854775807 := by omega
    have hs' := hide (srtH hs)
    clear hs
    go_enter Tryz.func44, Tryz.ntmps44
    go_wp2_with (go_at_call 92; refine hcall.mono ?_; rintro e w1 ⟨rfl, hpost⟩)
    go_end0
    obtain ⟨d', h1, h2, n, os, rfl⟩ := hpost.out
    have hsz : d'.size = l.length := by have := h2.length cmpVH_swo; simpa using this
    have hst : Stb (Go.Proofs.ltOf cmpVH) l d'.toList := by simpa using h2
    have he : l = d'.toList := Stb.uniq cmpVH_swo hst hs'.out h1
    have ho := hown.sortK (m := n) (os := os) NodeE.enc hsz
    rw [← he] at ho
    exact ⟨rfl, ho, sortK_below hg hbase, sortK_grownBy⟩
end Go.Proofs.YtjegncmkebbdfaaGreatDoor

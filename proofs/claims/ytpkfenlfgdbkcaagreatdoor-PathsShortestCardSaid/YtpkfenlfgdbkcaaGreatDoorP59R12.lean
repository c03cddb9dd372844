/-
  Contracts of the functions of this seat that each theorem names: what a call returns, and that it writes nothing that was there before. The conditions stand in each theorem.
-/
import Derived.Test.YtpkfenlfgdbkcaaGreatDoorP59R11
import Derived.Deep.RegionHeld3
set_option linter.unusedSimpArgs false
set_option linter.unusedVariables false
namespace Go.Proofs.YtpkfenlfgdbkcaaGreatDoor
open Go.RowKit
attribute [local go_sem] Oper.semAt_some Instr.makeFunc
attribute [local simp] heap_drew
attribute [local go_sem ↓] load_view_pre load_flight_pre load_msg_pre store_view_pre store_flight_pre store_msg_pre load_scion_pre store_scion_pre
attribute [local go_sem] load_view load_flight load_msg store_view store_flight store_msg load_scion store_scion view_isRow zero_isRow scion_isRow zeroS_isRow rowFree_new setRow_new view_arr0 view_arr2 view_arr3 view_arr4 view_arr5 view_arr6 view_arr9 view_arr10 flight_arr0 flight_arr1 flight_arr2 flight_arr3 flight_arr6 flight_arr7 flight_arr8 flight_arr9 flight_arr10 flight_arr11 flight_arr12 flight_arr13 flight_arr17 flight_arr18 flight_arr19 flight_arr20 flight_arr21 flight_arr22 flight_arr23 flight_arr24 flight_arr25 msg_arr0 msg_arr1 msg_arr4 msg_arr5 msg_arr6 msg_arr7 msg_arr8 msg_arr9 msg_arr10 msg_arr11 msg_arr15 msg_arr16 msg_arr17 msg_arr18 msg_arr19 msg_arr20 msg_arr21 msg_arr22 msg_arr23
attribute [local go_sem ↓] run_eql_id run_neq_id
/-- A list of identities among others: where it lies. -/
structure PaE where
  A : Option Addr
  c : Nat
  l : List IDE
def PaE.cells (g : PaE) : List Value := [.slice g.A g.l.length g.c]
abbrev PaE.v (g : PaE) : Value := .slice g.A g.l.length g.c
theorem PaE.enc : Enc PaE.cells 1 := ⟨fun _ => rfl, fun x u hu => by simp only [PaE.cells, List.mem_cons, List.not_mem_nil, or_false] at hu; subst hu; rfl, by decide⟩
theorem paT : ElemT Tryz.prog 131 48 1 24 := ElemT.mk' (z := .slice none 0 0) Tryz.underlying131 (by kernel_rfl) rfl
theorem PaE.get {w : World} {A : Option Addr} {gs : List PaE} (h : SlAt PaE.cells 1 w A gs) {k : Nat} (hk : k < gs.length) : ∃ b o g, A = some ⟨b, o, none⟩ ∧ gs[k]? = some g ∧ (∀ u [Later w u], u.cell? ⟨b, o + k, none⟩ = some (.slice g.A g.l.length g.c)) := by
  obtain ⟨b, o, g, hA, _, hg, hc⟩ := h.at_ hk
  refine ⟨b, o, g, hA, hg, fun u i => ?_⟩
  have := cell_below (hc 0 _ rfl) i.below
  simpa using this
/-- An own list of identities. -/
def PaOk (base : Nat) (w : World) (p : PaE) : Prop := Own IDE.cells 2 24 base w (.slice p.A p.l.length p.c) p.l
theorem PaOk.below {base : Nat} {w w' : World} {p : PaE} (h : PaOk base w p) (hb : Below w.heap.size w w') : PaOk base w' p := Own.below h hb
theorem PaOk.grown {base b' : Nat} {w w' : World} {p : PaE} {v : Value} {ps : List PaE} (h : PaOk base w p) (ho : Own PaE.cells 1 48 b' w v ps) (hg : w.grownBy w' v.ownBlock) : PaOk base w' p := by
  refine Own.kept h hg ?_
  rcases Own.form h with ⟨hf, -⟩ | ⟨g', cap', hf, -⟩
  · rw [hf]; exact .inl rfl
  · refine .inr fun e => ?_
    have hv : v.ownBlock = some g' := by rw [← e, hf]; rfl
    obtain ⟨cs, hcs⟩ := own_type h (show (Value.slice p.A p.l.length p.c).ownBlock = some g' by rw [hf]; rfl)
    exact own_off ho hcs (by decide) hv
theorem PaOk.set {base : Nat} {w : World} {p : PaE} (h : PaOk base w p) {g i : Nat} {cs : Array Value} {fr : Nat × Nat} (hg : w.heap[g]? = some (.cells cs 48 fr)) (x : Value) : PaOk base (w.setCell ⟨g, i, none⟩ x) p :=
  Own.far h (own_off h hg (by decide)) x
/-! ### Plain -/
def leastR (G : List NodeC) (R : List IDE) (id : IDE) : List IDE := match G.findIdx? (fun n => decide (n.id = id)) with | some j => (leastP G R (G.length - 1)).getD j [] | none => []
theorem bestK_len (G : List NodeC) (P : List (List IDE)) (n j : Nat) (h : (P.getD j []).length = 0) : ∀ i, (bestK G P n j i).length = 0 ∨ (bestK G P n j i).length = n + 1
  | 0 => .inl h
  | i + 1 => by
    unfold bestK
    split
    · rename_i hc
      simp only [Bool.and_eq_true] at hc
      have h1 := hc.1
      unfold candB at h1
      simp only [Bool.and_eq_true] at h1
      have := of_decide_eq_true h1.1
      right
      rw [List.length_append, List.length_singleton, this]
    · exact bestK_len G P n j h i
/-- The next list, when i nodes and k of its places have been passed. -/
def NxR (G : List NodeC) (P : List (List IDE)) (n i k : Nat) (nx : List PaE) : Prop := ∀ j p, nx[j]? = some p → p.l = bestK G P n j (if j < k then i + 1 else i)
theorem NxR.zero {G : List NodeC} {P : List (List IDE)} {n : Nat} {nx : List PaE} (h : nx.map PaE.l = P) : NxR G P n 0 0 nx := fun j p hj => by
  rw [if_neg (by omega)]
  show p.l = P.getD j []
  rw [← h, List.getD_eq_getElem?_getD, List.getElem?_map, hj]; rfl
theorem NxR.same {G : List NodeC} {P : List (List IDE)} {n i k : Nat} {nx : List PaE} (h : NxR G P n i k nx) (hb : bestK G P n k (i + 1) = bestK G P n k i) : NxR G P n i (k + 1) nx := fun j p hj => by
  have h1 := h j p hj
  rcases Nat.lt_trichotomy j k with h2 | h2 | h2
  · rw [if_pos h2] at h1; rw [if_pos (by omega)]; exact h1
  · subst h2
    rw [if_neg (by omega)] at h1
    rw [if_pos (by omega), hb]; exact h1
  · rw [if_neg (by omega)] at h1; rw [if_neg (by omega)]; exact h1
theorem NxR.put {G : List NodeC} {P : List (List IDE)} {n i k : Nat} {nx : List PaE} {q : PaE} (h : NxR G P n i k nx) (hb : bestK G P n k (i + 1) = q.l) : NxR G P n i (k + 1) (nx.set k q) := fun j p hj => by
  rw [List.getElem?_set] at hj
  split at hj
  · next hk =>
    subst hk
    rw [if_pos (by omega), hb]
    split at hj
    · injection hj with hj; rw [hj]
    · cases hj
  · next hk =>
    have h1 := h j p hj
    rcases Nat.lt_trichotomy j k with h2 | h2 | h2
    · rw [if_pos h2] at h1; rw [if_pos (by omega)]; exact h1
    · exact absurd h2.symm hk
    · rw [if_neg (by omega)] at h1; rw [if_neg (by omega)]; exact h1
theorem NxR.row {G : List NodeC} {P : List (List IDE)} {n i : Nat} {nx : List PaE} (h : NxR G P n i nx.length nx) : NxR G P n (i + 1) 0 nx := fun j p hj => by
  have h1 := h j p hj
  rw [if_pos (List.getElem?_eq_some_iff.1 hj).1] at h1
  rw [if_neg (by omega)]
  exact h1
theorem NxR.endd {G : List NodeC} {P : List (List IDE)} {n : Nat} {nx : List PaE} (h : NxR G P n G.length 0 nx) (hl : nx.length = G.length) : nx.map PaE.l = leastNext G P n := by
  unfold leastNext
  apply List.ext_getElem?
  intro j
  rw [List.getElem?_map, List.getElem?_map]
  rcases Nat.lt_or_ge j nx.length with hj | hj
  · have h1 := h j _ (List.getElem?_eq_getElem hj)
    rw [if_neg (by omega)] at h1
    rw [List.getElem?_eq_getElem hj, List.getElem?_range (by omega)]
    simp [h1]
  · rw [List.getElem?_eq_none hj, List.getElem?_eq_none (by rw [List.length_range]; omega)]
    rfl
theorem best_no {G : List NodeC} {P : List (List IDE)} {n i k : Nat} (h : candB G P n i k = false) : bestK G P n k (i + 1) = bestK G P n k i := by
  conv => lhs; unfold bestK
  rw [h]; rfl
theorem best_yes {G : List NodeC} {P : List (List IDE)} {n i k : Nat} (h : candB G P n i k = true) (hb : (decide ((bestK G P n k i).length = 0) || lessB (P.getD i [] ++ [idAt G k]) (bestK G P n k i)) = true) : bestK G P n k (i + 1) = P.getD i [] ++ [idAt G k] := by
  conv => lhs; unfold bestK
  rw [h, hb]; rfl
theorem best_less {G : List NodeC} {P : List (List IDE)} {n i k : Nat} (hb : (decide ((bestK G P n k i).length = 0) || lessB (P.getD i [] ++ [idAt G k]) (bestK G P n k i)) = false) : bestK G P n k (i + 1) = bestK G P n k i := by
  conv => lhs; unfold bestK
  rw [hb, Bool.and_false]; rfl
theorem init_take {G : List NodeE} {R : List IDE} {i : Nat} {n : NodeE} {bb : Bool} (h : G.take (i + 1) = G.take i ++ [n]) (hb : decide (n.con.id ∈ R) = bb) {ps : List PaE} (hp : ps.map PaE.l = leastInit (conL (G.take i)) R) {q : PaE} (hq : q.l = if bb then [n.con.id] else []) : (ps ++ [q]).map PaE.l = leastInit (conL (G.take (i + 1))) R := by
  rw [h, List.map_append, hp]
  unfold leastInit conL
  rw [List.map_append, List.map_append, List.map_cons, List.map_nil, List.map_cons, List.map_nil, List.map_cons, List.map_nil, hq, ← hb]
  simp
theorem step_other {W w9 : World} {v v' : Value} (hs : Step W w9 v v') {g gE cap n : Nat} {o : Obj} (hv : v = .slice (some ⟨gE, 0, none⟩) n cap) (hne : g ≠ gE) (hb : W.heap[g]? = some o) : w9.heap[g]? = some o :=
  (hs.1.block g (Array.getElem?_eq_some_iff.1 hb).1 (fun e => by rw [hv] at e; injection e with e; exact hne e)).trans hb
theorem PaE.put {base g n c k : Nat} {w : World} {nx : List PaE} (h : Own PaE.cells 1 48 base w (.slice (some ⟨g, 0, none⟩) n c) nx) (hk : k < nx.length) (p : PaE) : Own PaE.cells 1 48 base (w.setCell ⟨g, k, none⟩ p.v) (.slice (some ⟨g, 0, none⟩) n c) (nx.set k p) := by
  have := h.store PaE.enc (k := k) (j := 0) (x' := p) (u := p.v) (List.getElem?_eq_getElem hk) (by decide) rfl
  simpa using this
theorem PaE.cellOf {base g n c k : Nat} {w : World} {nx : List PaE} {p : PaE} (h : Own PaE.cells 1 48 base w (.slice (some ⟨g, 0, none⟩) n c) nx) (hk : nx[k]? = some p) : ∀ u [Later w u], u.cell? ⟨g, k, none⟩ = some (.slice p.A p.l.length p.c) := fun u i => by
  have := (h.later u).cell PaE.enc hk (j := 0) rfl
  simpa using this
theorem candB_eq {G : List NodeE} {q : List PaE} {n i k : Nat} {pi pk : PaE} {ni nk : NodeE} (hpi : q[i]? = some pi) (hpk : q[k]? = some pk) (hni : G[i]? = some ni) (hnk : G[k]? = some nk) :
    candB (conL G) (q.map PaE.l) n i k = (decide (pi.l.length = n) && (decide (pk.l.length = 0) && decide (0 ≤ rFieldN ni.con nk.con.id))) ∧ (q.map PaE.l).getD i [] = pi.l ∧ (q.map PaE.l).getD k [] = pk.l ∧ idAt (conL G) k = nk.con.id := by
  have h1 : (q.map PaE.l).getD i [] = pi.l := by rw [List.getD_eq_getElem?_getD, List.getElem?_map, hpi]; rfl
  have h2 : (q.map PaE.l).getD k [] = pk.l := by rw [List.getD_eq_getElem?_getD, List.getElem?_map, hpk]; rfl
  have h3 : idAt (conL G) k = nk.con.id := by unfold idAt conL; rw [List.getD_eq_getElem?_getD, List.getElem?_map, hnk]; rfl
  have h4 : (conL G).getD i zeroC = ni.con := by unfold conL; rw [List.getD_eq_getElem?_getD, List.getElem?_map, hni]; rfl
  refine ⟨?_, h1, h2, h3⟩
  unfold candB
  rw [h1, h2, h3, h4]
theorem leastR_hit {G : List NodeE} {R : List IDE} {id : IDE} {i : Nat} {n : NodeE} (hn : G[i]? = some n) (he : n.con.id = id) (hno : ∀ j m, j < i → G[j]? = some m → m.con.id ≠ id) : leastR (conL G) R id = (leastP (conL G) R ((conL G).length - 1)).getD i [] := by
  have : (conL G).findIdx? (fun n => decide (n.id = id)) = some i := by
    rw [List.findIdx?_eq_some_iff_getElem]
    have hi := (List.getElem?_eq_some_iff.1 hn).1
    refine ⟨by unfold conL; rw [List.length_map]; exact hi, ?_, fun j hj => ?_⟩
    · have : (conL G)[i]'(by unfold conL; rw [List.length_map]; exact hi) = n.con := by
        unfold conL
        rw [List.getElem_map, (List.getElem?_eq_some_iff.1 hn).2]
      rw [this]
      exact decide_eq_true he
    · have hj' : j < G.length := by omega
      have : (conL G)[j]'(by unfold conL; rw [List.length_map]; exact hj') = (G[j]).con := by
        unfold conL
        rw [List.getElem_map]
      rw [this]
      have := hno j G[j] hj (List.getElem?_eq_getElem hj')
      simp [this]
  unfold leastR
  rw [this]
theorem leastR_miss {G : List NodeE} {R : List IDE} {id : IDE} (hno : ∀ j m, j < G.length → G[j]? = some m → m.con.id ≠ id) : leastR (conL G) R id = [] := by
  have : (conL G).findIdx? (fun n => decide (n.id = id)) = none := by
    rw [List.findIdx?_eq_none_iff]
    intro x hx
    unfold conL at hx
    obtain ⟨m, hm, rfl⟩ := List.mem_map.1 hx
    obtain ⟨j, hj⟩ := List.getElem?_of_mem hm
    exact decide_eq_false (hno j m (List.getElem?_eq_some_iff.1 hj).1 hj)
  unfold leastR
  rw [this]
set_option maxRecDepth 200000 in
set_option maxHeartbeats 16000000 in
theorem least_any (GA : Option Addr) (gc : Nat) (G : List NodeE) (RA : Option Addr) (rc : Nat) (R : List IDE) (id : IDE) (w : World) (HG : NodesAt w GA G) (hl : G.length ≤ 1000) (hfl : ∀ n ∈ G, n.fields.length ≤ 1000) (hR : SlAt IDE.cells 2 w RA R) (hrl : R.length ≤ 1000000) :
    Calls Tryz.prog 30 #[.agg #[.slice GA G.length gc], .slice RA R.length rc, id.v] w (IdsPost (leastR (conL G) R id) w) := by
  have hN := HG.later
  have hRs := id_at2 hR
  have hl' : G.length ≤ 9223372036854775807 := by omega
  unfold IdsPost
  go_enter Tryz.func30, Tryz.ntmps30
  go_upto_region 1 with fail
  refine wp_name ?_
  intro w0 hw0
  obtain ⟨B3, B5, l0⟩ := box2 hw0
  have lw0 : Later w w0 := l0 w
  have l00 : Later w0 w0 := Later.refl
  clear hw0
  obtain ⟨g5, h5⟩ : ∃ y, y = w.heap.size + 1 := ⟨_, rfl⟩
  rw [← h5] at B5 ⊢
  clear h5
  obtain ⟨g3, h3⟩ : ∃ y, y = w.heap.size := ⟨_, rfl⟩
  rw [← h3] at B3
  simp only [← h3]
  have H3 := hide h3
  clear h3
  go_upto_region 2 with fail
  refine wp_name ?_
  intro w1 hw1
  have ho1 : Own PaE.cells 1 48 w0.heap.size w1 (.slice (some ⟨w0.heap.size, 0, none⟩) 0 0) ([] : List PaE) := Own.empty_blk (Nat.le_refl _) (by rw [← hw1]; exact heap_alloc_new _ _)
  have hb1 : Below w0.heap.size w0 w1 := by rw [← hw1]; exact (by repeat (first | with_reducible exact Below.refl _ _ | (with_reducible refine Below.drew ?_) | (with_reducible refine below_drewN ?_ _) | (with_reducible refine Below.alloc ?_ ?_ _; rotate_left; (first | omega | (simp <;> omega))) | (with_reducible refine Below.setCell ?_ ?_ _; rotate_left; (first | omega | (simp <;> omega)))))
  clear hw1
  go_wp2_with fail
  go_loopw [7, 8] (fun ov iv wr => ∃ (i : Nat) (q : List PaE) (QA : Option Addr) (QC : Nat), i ≤ G.length ∧ iv = .int .i64 i ∧ ov = .slice QA q.length QC ∧ Hid (q.map PaE.l = leastInit (conL (G.take i)) R) ∧ Hid (q.length = i) ∧ Own PaE.cells 1 48 w0.heap.size wr (.slice QA q.length QC) q ∧ Hid (∀ p ∈ q, PaOk w0.heap.size wr p) ∧ Below w0.heap.size w0 wr) (fun _ iv _ => G.length - (intOf iv).toNat)
  case atStart => exact ⟨0, [], _, _, by omega, rfl, rfl, hide rfl, hide rfl, ho1, hide (fun p hp => by cases hp), hb1⟩
  clear ho1 hb1
  case round =>
    obtain ⟨i, q, QA, QC, hi, rfl, rfl, hq, hqn, hoq, hok, hbr⟩ := hrel
    have lrr : Later wr wr := Later.refl
    have l0r : Later w0 wr := ⟨hbr⟩
    have lwr : Later w wr := lw0.trans l0r
    by_cases hlt : i < G.length
    rotate_left
    · have hk' : i = G.length := by omega
      subst hk'
      rw [List.take_length] at hq
      have hq0 := hide (show q.map PaE.l = leastP (conL G) R (1 - 1) from hq.out)
      clear hq hlt lrr
      go_wp2_with fail
      go_loopw [7, 10] (fun ov nv wr => ∃ (n : Nat) (q : List PaE) (QA : Option Addr) (QC : Nat), 1 ≤ n ∧ Hid (n ≤ G.length ∨ n = 1) ∧ nv = .int .i64 n ∧ ov = .slice QA q.length QC ∧ Hid (q.map PaE.l = leastP (conL G) R (n - 1)) ∧ Hid (q.length = G.length) ∧ Own PaE.cells 1 48 w0.heap.size wr (.slice QA q.length QC) q ∧ Hid (∀ p ∈ q, PaOk w0.heap.size wr p) ∧ Below w0.heap.size w0 wr) (fun _ nv _ => G.length - (intOf nv).toNat)
      case atStart => exact ⟨1, q, QA, QC, by omega, hide (.inr rfl), rfl, rfl, hq0, hide hqn.out, hoq, hok, hbr⟩
      clear hq0 hqn hoq hok hbr l0r lwr
      case round =>
        obtain ⟨n, q, QA, QC, hn1, hnG, rfl, rfl, hq, hqn, hoq, hok, hbr⟩ := hrel
        obtain ⟨wR, hwR⟩ : ∃ y, y = wr := ⟨_, rfl⟩
        subst hwR
        have lRR : Later wR wR := Later.refl
        have l0R : Later w0 wR := ⟨hbr⟩
        have lwR : Later w wR := lw0.trans l0R
        by_cases hltn : n < G.length
        rotate_left
        · have hq' := hide (show q.map PaE.l = leastP (conL G) R ((conL G).length - 1) by
            rw [hq.out, show n - 1 = (conL G).length - 1 by (unfold conL; rw [List.length_map]; rcases hnG.out with h | h <;> omega)])
          clear hq
          go_wp2_with fail
          go_loopw [15] (fun iv w' => ∃ i : Nat, i ≤ G.length ∧ iv = .int .i64 i ∧ Hid (∀ j m, j < i → G[j]? = some m → m.con.id ≠ id) ∧ Below wR.heap.size wR w') (fun iv _ => G.length - (intOf iv).toNat)
          case atStart => exact ⟨0, by omega, rfl, hide (fun j m h => absurd h (by omega)), below_of⟩
          case round =>
            obtain ⟨i, hi, rfl, hno, hbx⟩ := hrel
            have lrr : Later wr wr := Later.refl
            have lRr : Later wR wr := ⟨hbx⟩
            have l0r : Later w0 wr := l0R.trans lRr
            have lwr : Later w wr := lw0.trans l0r
            by_cases hlt : i < G.length
            rotate_left
            · have hk' : i = G.length := by omega
              have hF := hide (show leastR (conL G) R id = [] from leastR_miss (by rw [← hk']; exact hno.out))
              go_wp2_with fail
              go_ret
              exact ⟨[], none, 0, hide hF.out.symm, rfl, Own.nil, below_of⟩
            have hii : (i : Int) < (G.length : Int) := by omega
            have hqne : q ≠ [] := by rintro rfl; have := hqn.out; simp at this; omega
            obtain ⟨gq, rfl⟩ := hoq.isSome hqne
            obtain ⟨gx, ox, m, rfl, hm, NC, -, -⟩ := (hN w).get hlt
            cases he : ideq m.iDMachine m.iDSerial id.machine id.serial
            · have hno' := hide (show ∀ j m, j < i + 1 → G[j]? = some m → m.con.id ≠ id from fun j y hj hy => by
                rcases Nat.lt_or_ge j i with h | h
                · exact hno.out j y h hy
                · have : j = i := by omega
                  subst this
                  rw [hm] at hy; injection hy with hy; subst hy
                  intro e
                  rw [← e, show ideq m.iDMachine m.iDSerial m.con.id.machine m.con.id.serial = decide (m.con.id = m.con.id) from @ideq_iff m.con.id m.con.id] at he
                  simp at he)
              clear hm
              go_upto_region 27 with fail
              (refine wp_region_after (by kernel_rfl) (by kernel_rfl) ?_
               repeat (any_goals (first | go_big_quiet_skip | (go_big_quiet_want; go_big_quiet_op; first | go_big_quiet_on | go_big_quiet_call (fail)) | quiet_step (fail) | (refine wpQuiet_step (fun K hK => ?_); go_simp; split <;> (refine hK _ ?_; clear hK K))))
               all_goals (refine wpQuiet_nil ?_; intro _ hw'; obtain ⟨u', hw''⟩ := hw'; subst hw''; obtain ⟨wd, hbd⟩ := u'; simp only [After.val_mk]))
              have ld := later hbd
              go_wp2_with fail
              go_roundw
              case rel => exact ⟨i + 1, by omega, by go_num, hno', hbx.trans (hbd.mono hbx.size)⟩
              case measure => simp [intOf]; omega
            · have hid : m.con.id = id := by
                rw [show ideq m.iDMachine m.iDSerial id.machine id.serial = decide (m.con.id = id) from @ideq_iff m.con.id id] at he
                simpa using he
              obtain ⟨p, hp⟩ : ∃ p, q[i]? = some p := ⟨_, List.getElem?_eq_getElem (by rw [hqn.out]; exact hlt)⟩
              have hF := hide (show leastR (conL G) R id = p.l by rw [leastR_hit hm hid hno.out, ← hq'.out, List.getD_eq_getElem?_getD, List.getElem?_map, hp]; rfl)
              have PI := PaE.cellOf hoq hp
              have hiq : (i : Int) < (q.length : Int) := by rw [hqn.out]; omega
              have hpo := hok.out p (List.mem_of_getElem? hp)
              clear hm hp hid
              go_upto_region 27 with fail
              (refine wp_region_after (by kernel_rfl) (by kernel_rfl) ?_
               repeat (any_goals (first | go_big_quiet_skip | (go_big_quiet_want; go_big_quiet_op; first | go_big_quiet_on | go_big_quiet_call (fail)) | quiet_step (fail) | (refine wpQuiet_step (fun K hK => ?_); go_simp; split <;> (refine hK _ ?_; clear hK K))))
               all_goals (refine wpQuiet_nil ?_; intro _ hw'; obtain ⟨u', hw''⟩ := hw'; subst hw''; obtain ⟨wd, hbd⟩ := u'; simp only [After.val_mk]))
              have ld := later hbd
              have ldd : Later wd wd := Later.refl
              go_wp2_with fail
              go_ret
              exact ⟨p.l, p.A, p.c, hide hF.out.symm, rfl, Own.mono (hpo.below (show Below wR.heap.size wR _ from below_of)) lw0.below.size, below_of⟩
        have hni : (n : Int) < (G.length : Int) := by omega
        have hqne : q ≠ [] := by rintro rfl; have := hqn.out; simp at this; omega
        obtain ⟨gq, rfl⟩ := hoq.isSome hqne
        have hq1000 : q.length ≤ 1000 := by rw [hqn.out]; omega
        have hsrc := fun (u : World) (j : Later wR u) => ((hoq.below j.below).at_ PaE.enc).2.2
        go_wp2_with (at_builtin; refine wpList_app rfl (.tmp 51) (.tmp 52) rfl PaE.enc paT (l := ([] : List PaE)) (base := wR.heap.size) (v := .slice (some ⟨wR.heap.size, 0, none⟩) 0 0) (Own.empty_blk (Nat.le_refl _) (heap_alloc_new wR _)) (some ⟨gq, 0, none⟩) QC q (hsrc _ inferInstance) rfl rfl (by simp; omega) (by unfold maxLen; simp; omega) (by simp) ?_; intro v4 w4 h1 h2 h3; have hb4 : Below wR.heap.size wR w4 := (Own.empty_blk (f := PaE.cells) (s := 1) (Nat.le_refl _) (heap_alloc_new wR _)).belowGrown ((Below.refl _ _).alloc (Nat.le_refl _) _) h2 (Nat.le_refl _) (by simp); obtain ⟨A4, c4, hv4, _, hm4, _⟩ := h1.slAt PaE.enc; rw [List.nil_append] at h1 hv4; subst hv4; obtain ⟨g7, rfl⟩ := h1.isSome hqne)
        have hg7 := h1.base_le
        obtain ⟨P, hP⟩ : ∃ z, z = q.map PaE.l := ⟨_, rfl⟩
        have hQ : ∀ i p, q[i]? = some p → ∀ u [Later wR u], u.cell? ⟨gq, i, none⟩ = some (.slice p.A p.l.length p.c) := fun i p h u j => PaE.cellOf hoq h u
        have hR0 := hide (NxR.zero (G := conL G) (n := n) hP.symm)
        have HP := hide hP
        clear hP hm4 h2 h3
        go_wp2_with fail
        go_loopw [12] (fun iv w' => ∃ (i : Nat) (nx : List PaE), i ≤ G.length ∧ iv = .int .i64 i ∧ Hid (nx.length = q.length) ∧ Hid (NxR (conL G) P n i 0 nx) ∧ Own PaE.cells 1 48 wR.heap.size w' (.slice (some ⟨g7, 0, none⟩) q.length c4) nx ∧ Hid (∀ p ∈ nx, PaOk w0.heap.size w' p) ∧ Below wR.heap.size wR w') (fun iv _ => G.length - (intOf iv).toNat)
        case atStart => exact ⟨0, q, by omega, rfl, hide rfl, hR0, h1, hide (fun p hp => (hok.out p hp).below hb4), hb4⟩
        clear h1 hb4 hR0
        case round =>
          obtain ⟨i, nx, hi, rfl, hxn, hR, hox, hokx, hbx⟩ := hrel
          have lrr : Later wr wr := Later.refl
          have lRr : Later wR wr := ⟨hbx⟩
          have l0r : Later w0 wr := l0R.trans lRr
          have lwr : Later w wr := lw0.trans l0r
          by_cases hlt : i < G.length
          rotate_left
          · have hk' : i = G.length := by omega
            subst hk'
            have hE := hide (show nx.map PaE.l = leastP (conL G) R (n + 1 - 1) by
              have hR2 := hR.out
              rw [show G.length = (conL G).length by unfold conL; rw [List.length_map]] at hR2
              rw [NxR.endd hR2 (by rw [hxn.out, hqn.out]; unfold conL; rw [List.length_map]), HP.out, hq.out]
              obtain ⟨m, rfl⟩ : ∃ m, n = m + 1 := ⟨n - 1, by omega⟩
              rfl)
            have hxl : nx.length = q.length := hxn.out
            go_wp2_with fail
            go_roundw
            case rel => exact ⟨n + 1, nx, some ⟨g7, 0, none⟩, c4, by omega, hide (.inl (by omega)), by go_num, by rw [hxl], hE, hide (by rw [hxl, hqn.out]), by rw [hxl]; exact hox.mono l0R.below.size, hokx, hbr.trans (hbx.mono hbr.size)⟩
            case measure => simp [intOf]; omega
          have hii : (i : Int) < (G.length : Int) := by omega
          go_wp2_with fail
          go_loopw [13] (fun kv w' => ∃ (k : Nat) (nx : List PaE), k ≤ G.length ∧ kv = .int .i64 k ∧ Hid (nx.length = q.length) ∧ Hid (NxR (conL G) P n i k nx) ∧ Own PaE.cells 1 48 wR.heap.size w' (.slice (some ⟨g7, 0, none⟩) q.length c4) nx ∧ Hid (∀ p ∈ nx, PaOk w0.heap.size w' p) ∧ Below wR.heap.size wR w') (fun kv _ => G.length - (intOf kv).toNat)
          case atStart => exact ⟨0, nx, by omega, rfl, hxn, hR, hox, hokx, hbx⟩
          clear hxn hR hox hokx hbx lrr lRr l0r lwr
          case round =>
            obtain ⟨k, nx, hk, rfl, hxn, hR, hox, hokx, hbx⟩ := hrel
            have lrr : Later wr wr := Later.refl
            have lRr : Later wR wr := ⟨hbx⟩
            have l0r : Later w0 wr := l0R.trans lRr
            have lwr : Later w wr := lw0.trans l0r
            have hzx := hbx.size
            by_cases hltk : k < G.length
            rotate_left
            · have hk' : k = G.length := by omega
              have hR' := hide (show NxR (conL G) P n (i + 1) 0 nx from NxR.row (by rw [hxn.out, hqn.out, ← hk']; exact hR.out))
              go_wp2_with fail
              go_roundw
              case rel => exact ⟨i + 1, nx, by omega, by go_num, hxn, hR', hox, hokx, hbx⟩
              case measure => simp [intOf]; omega
            have hki : (k : Int) < (G.length : Int) := by omega
            obtain ⟨gx, ox, ni, rfl, hni', NI, NFi, -⟩ := (hN w).get hlt
            obtain ⟨gy, oy, nk, e, hnk', NK, -, -⟩ := (hN w).get hltk
            injection e with e
            injection e with e1 e2 e3
            subst e1 e2
            obtain ⟨pi, hpi⟩ : ∃ p, q[i]? = some p := ⟨_, List.getElem?_eq_getElem (by rw [hqn.out]; exact hlt)⟩
            obtain ⟨pk, hpk⟩ : ∃ p, q[k]? = some p := ⟨_, List.getElem?_eq_getElem (by rw [hqn.out]; exact hltk)⟩
            have hiq : (i : Int) < (q.length : Int) := by rw [hqn.out]; omega
            have hkq : (k : Int) < (q.length : Int) := by rw [hqn.out]; omega
            have PI := hQ i pi hpi
            have PK := hQ k pk hpk
            have hpio := hok.out pi (List.mem_of_getElem? hpi)
            obtain ⟨hcand, hPi, hPk, hIk⟩ := candB_eq (n := n) hpi hpk hni' hnk'
            rw [← HP.out] at hcand hPi hPk
            have hfi := hfl ni (List.mem_of_getElem? hni')
            have HFd : ∀ u [Later w u], Calls Tryz.prog 16 #[ni.v, nk.con.id.v] u fun r w' => r = .returned (.int .i64 (rFieldN ni.con nk.con.id)) ∧ Below u.heap.size u w' := fun u j => refField_any ni nk.con.id u (NFi u) (by omega)
            obtain ⟨fd, hfd⟩ : ∃ z, rFieldN ni.con nk.con.id = z := ⟨_, rfl⟩
            rw [hfd] at HFd hcand
            clear hfd hni' hnk' hpi hpk
            have Hcand := hide hcand
            have HPi := hide hPi
            have HPk := hide hPk
            have HIk := hide hIk
            clear hcand hPi hPk hIk
            by_cases c1 : pi.l.length = n
            rotate_left
            · have hR' := hide (hR.out.same (best_no (by rw [Hcand.out, decide_eq_false c1]; rfl)))
              have c1i : ¬ (pi.l.length : Int) = (n : Int) := by omega
              go_upto_region 19 with fail
              (refine wp_region_after (by kernel_rfl) (by kernel_rfl) ?_
               repeat (any_goals (first | go_big_quiet_skip | (go_big_quiet_want; go_big_quiet_op; first | go_big_quiet_on | go_big_quiet_call ((go_at_call 16; exact Calls.after (HFd _)))) | quiet_step ((go_at_call 16; exact Calls.after (HFd _))) | (refine wpQuiet_step (fun K hK => ?_); go_simp; split <;> (refine hK _ ?_; clear hK K))))
               all_goals (refine wpQuiet_nil ?_; intro _ hw'; obtain ⟨u', hw''⟩ := hw'; subst hw''; obtain ⟨wd, hbd⟩ := u'; simp only [After.val_mk]))
              all_goals (try (exfalso; omega))
              have ld := later hbd
              have hbrd : Below wr.heap.size wr wd := below_of
              go_wp2_with fail
              go_roundw
              case rel => exact ⟨k + 1, nx, by omega, by go_num, hxn, hR', hox.below hbrd, hide (fun p hp => (hokx.out p hp).below hbrd), hbx.trans (hbrd.mono hzx)⟩
              case measure => simp [intOf]; omega
            have c1h := hide c1
            simp only [c1] at PI
            clear c1
            by_cases c2 : pk.l.length = 0
            rotate_left
            · have hR' := hide (hR.out.same (best_no (by rw [Hcand.out, decide_eq_false c2, Bool.false_and, Bool.and_false])))
              have c2i : (0 : Int) < (pk.l.length : Int) := by omega
              go_upto_region 19 with fail
              (refine wp_region_after (by kernel_rfl) (by kernel_rfl) ?_
               repeat (any_goals (first | go_big_quiet_skip | (go_big_quiet_want; go_big_quiet_op; first | go_big_quiet_on | go_big_quiet_call ((go_at_call 16; exact Calls.after (HFd _)))) | quiet_step ((go_at_call 16; exact Calls.after (HFd _))) | (refine wpQuiet_step (fun K hK => ?_); go_simp; split <;> (refine hK _ ?_; clear hK K))))
               all_goals (refine wpQuiet_nil ?_; intro _ hw'; obtain ⟨u', hw''⟩ := hw'; subst hw''; obtain ⟨wd, hbd⟩ := u'; simp only [After.val_mk]))
              all_goals (try (exfalso; omega))
              have ld := later hbd
              have hbrd : Below wr.heap.size wr wd := below_of
              go_wp2_with fail
              go_roundw
              case rel => exact ⟨k + 1, nx, by omega, by go_num, hxn, hR', hox.below hbrd, hide (fun p hp => (hokx.out p hp).below hbrd), hbx.trans (hbrd.mono hzx)⟩
              case measure => simp [intOf]; omega
            have c2h := hide c2
            simp only [c2] at PK
            clear c2
            by_cases c3 : 0 ≤ fd
            rotate_left
            · have hR' := hide (hR.out.same (best_no (by rw [Hcand.out, decide_eq_false c3, Bool.and_false, Bool.and_false])))
              have c3i : fd < 0 := by omega
              go_upto_region 19 with fail
              (refine wp_region_after (by kernel_rfl) (by kernel_rfl) ?_
               repeat (any_goals (first | go_big_quiet_skip | (go_big_quiet_want; go_big_quiet_op; first | go_big_quiet_on | go_big_quiet_call ((go_at_call 16; exact Calls.after (HFd _)))) | quiet_step ((go_at_call 16; exact Calls.after (HFd _))) | (refine wpQuiet_step (fun K hK => ?_); go_simp; split <;> (refine hK _ ?_; clear hK K))))
               all_goals (refine wpQuiet_nil ?_; intro _ hw'; obtain ⟨u', hw''⟩ := hw'; subst hw''; obtain ⟨wd, hbd⟩ := u'; simp only [After.val_mk]))
              all_goals (try (exfalso; omega))
              have ld := later hbd
              have hbrd : Below wr.heap.size wr wd := below_of
              go_wp2_with fail
              go_roundw
              case rel => exact ⟨k + 1, nx, by omega, by go_num, hxn, hR', hox.below hbrd, hide (fun p hp => (hokx.out p hp).below hbrd), hbx.trans (hbrd.mono hzx)⟩
              case measure => simp [intOf]; omega
            have Hc := hide (show candB (conL G) P n i k = true by rw [Hcand.out, decide_eq_true c1h.out, decide_eq_true c2h.out, decide_eq_true c3]; rfl)
            have c3i : ¬ fd < 0 := by omega
            obtain ⟨pn, hpn⟩ : ∃ p, nx[k]? = some p := ⟨_, List.getElem?_eq_getElem (by rw [hxn.out, hqn.out]; exact hltk)⟩
            have hkx : k < nx.length := (List.getElem?_eq_some_iff.1 hpn).1
            have PN := PaE.cellOf hox hpn
            have HFz : ∀ (u : World) [Later wr u] (j : Nat), u.frozen? ⟨g7, j, none⟩ = false := fun u i j => (hox.later u).free j
            have hpnB := hide (show pn.l = bestK (conL G) P n k i by have := hR.out k pn hpn; rwa [if_neg (by omega)] at this)
            have hpnl := hide (show pn.l.length = 0 ∨ pn.l.length = n + 1 by rw [hpnB.out]; exact bestK_len _ _ _ _ (by rw [HPk.out]; exact c2h.out) _)
            have hpno := hokx.out pn (List.mem_of_getElem? hpn)
            clear hpn
            have hnb : n < 1000 := by omega
            have Hn := hide (show ([] ++ pi.l) ++ [nk.con.id] = P.getD i [] ++ [idAt (conL G) k] by rw [HPi.out, HIk.out]; rfl)
            go_upto_region 19 with fail
            (refine wp_region_after (by kernel_rfl) (by kernel_rfl) ?_
             repeat (any_goals (first | go_big_quiet_skip | (go_big_quiet_want; go_big_quiet_op; first | go_big_quiet_on | go_big_quiet_call ((go_at_call 16; exact Calls.after (HFd _)))) | quiet_step ((go_at_call 16; exact Calls.after (HFd _))) | (refine wpQuiet_step (fun K hK => ?_); go_simp; split <;> (refine hK _ ?_; clear hK K))))
             all_goals (refine wpQuiet_nil ?_; intro _ hw'; obtain ⟨u', hw''⟩ := hw'; subst hw''; obtain ⟨wd, hbd⟩ := u'; simp only [After.val_mk]))
            have ld := later hbd
            have lrd : Later wr wd := ⟨below_of⟩
            have lRd : Later wR wd := lRr.trans lrd
            have l0d : Later w0 wd := l0R.trans lRd
            have lwd : Later w wd := lw0.trans l0d
            have ldd : Later wd wd := Later.refl
            have hsl : ∀ u, Later wd u → SlAt IDE.cells 2 u pi.A pi.l := fun u j => (Own.at_ (Own.below hpio (lRd.trans j).below) IDE.enc).2.2
            have cy : ∀ u [Later wd u], u.cell? ⟨gq, i, none⟩ = some (.slice pi.A n pi.c) ∧ u.cell? ⟨g3, 0, none⟩ = some (.slice (some ⟨gx, ox, none⟩) G.length gc) ∧ u.cell? ⟨gx, ox + k * 5, none⟩ = some (.int .i64 nk.iDMachine) ∧ u.cell? ⟨gx, ox + k * 5 + 1, none⟩ = some (.int .i64 nk.iDSerial) := fun u j => by
              haveI := lRd.trans j
              haveI := l0d.trans j
              haveI := lwd.trans j
              exact ⟨PI u, ((B3 u).2 0).1, (NK u).1, (NK u).2.1⟩
            obtain ⟨y0, y1, y2, y3⟩ := cy wd
            clear PI PK NI NK HFd
            go_upto_region 20 with fail
            go_region_held3 (fun w' => w'.cell? ⟨gq, i, none⟩ = some (.slice pi.A n pi.c) ∧ w'.cell? ⟨g3, 0, none⟩ = some (.slice (some ⟨gx, ox, none⟩) G.length gc) ∧ w'.cell? ⟨gx, ox + k * 5, none⟩ = some (.int .i64 nk.iDMachine) ∧ w'.cell? ⟨gx, ox + k * 5 + 1, none⟩ = some (.int .i64 nk.iDSerial)) (exact cy _)
              ((first
                | (first
                     | (refine step_app2 (P := Tryz.prog) rfl (.tmp 98) (.tmp 102) (by rfl) IDE.enc idT pi.A pi.c pi.l ([] : List IDE) (.slice (some ⟨wd.heap.size, 0, none⟩) 0 0) (by rfl) (by rfl) (m := n) (n := n) c1h.out (by simp) (Own.empty_blk (Nat.le_refl wd.heap.size) (by exact (by (simp only [heap_drew, heap_alloc_if, World.size_alloc]); (repeat (first | rw [if_pos rfl] | rw [if_neg (by omega)] | rw [if_pos (by omega)])); try rfl))) (hsl _ inferInstance) (by omega) (by unfold maxLen; omega) (show Below wd.heap.size wd _ from below_of).size ?_
                        intro A5 c5 w5 ho5 hm5 hst5
                        have hb5 : Below wd.heap.size wd w5 := below_stepA (f := IDE.cells) (s := 2) (e := 24) (l := ([] : List IDE)) (Own.empty_blk (g := wd.heap.size) (Nat.le_refl wd.heap.size) (by exact (by (simp only [heap_drew, heap_alloc_if, World.size_alloc]); (repeat (first | rw [if_pos rfl] | rw [if_neg (by omega)] | rw [if_pos (by omega)])); try rfl))) hst5 (show Below wd.heap.size wd _ from below_of) (show Below wd.heap.size wd _ from below_of).size
                        have ld5 : Later wd w5 := ⟨hb5⟩
                        first
                          | (have hI5 : w5.heap[wd.heap.size + 1]? = some (.cells #[.int .i64 nk.iDMachine, .int .i64 nk.iDSerial] 24 (0, 0)) := step_other hst5 rfl (by omega) (by (simp only [heap_drew, heap_alloc_if, World.size_alloc]); first | done | rw [if_pos trivial] | rw [if_pos rfl]))
                          | skip)
                     | (refine step_app2 (P := Tryz.prog) rfl (.tmp 98) (.tmp 102) (by rfl) IDE.enc idT pi.A pi.c pi.l ([] : List IDE) (.slice (some ⟨wd.heap.size + 1, 0, none⟩) 0 0) (by rfl) (by rfl) (m := n) (n := n) c1h.out (by simp) (Own.empty_blk (show wd.heap.size ≤ wd.heap.size + 1 by omega) (by exact (by (simp only [heap_drew, heap_alloc_if, World.size_alloc]); (repeat (first | rw [if_pos rfl] | rw [if_neg (by omega)] | rw [if_pos (by omega)])); try rfl))) (hsl _ inferInstance) (by omega) (by unfold maxLen; omega) (show Below wd.heap.size wd _ from below_of).size ?_
                        intro A5 c5 w5 ho5 hm5 hst5
                        have hb5 : Below wd.heap.size wd w5 := below_stepA (f := IDE.cells) (s := 2) (e := 24) (l := ([] : List IDE)) (Own.empty_blk (g := wd.heap.size + 1) (show wd.heap.size ≤ wd.heap.size + 1 by omega) (by exact (by (simp only [heap_drew, heap_alloc_if, World.size_alloc]); (repeat (first | rw [if_pos rfl] | rw [if_neg (by omega)] | rw [if_pos (by omega)])); try rfl))) hst5 (show Below wd.heap.size wd _ from below_of) (show Below wd.heap.size wd _ from below_of).size
                        have ld5 : Later wd w5 := ⟨hb5⟩
                        have hI5 : w5.heap[wd.heap.size]? = some (.cells #[.int .i64 nk.iDMachine, .int .i64 nk.iDSerial] 24 (0, 0)) := step_other hst5 rfl (by omega) (by exact (by (simp only [heap_drew, heap_alloc_if, World.size_alloc]); (repeat (first | rw [if_pos rfl] | rw [if_neg (by omega)] | rw [if_pos (by omega)])); try rfl))))
                | (refine step_app2 (P := Tryz.prog) rfl (.tmp 103) (.tmp 110) (by rfl) IDE.enc idT _ _ [nk.con.id] ([] ++ pi.l) (.slice A5 n c5) (by rfl) (by rfl) (m := 1) (n := n + 1) rfl (by rw [List.nil_append, c1h.out]) (ho5.later _) (blk_slAt IDE.enc (fr := (0, 0)) (e := 24) (by first | exact hI5 | exact heap_alloc_new _ _ | exact (by (simp only [heap_drew, heap_alloc_if, World.size_alloc]); (repeat (first | rw [if_pos rfl] | rw [if_neg (by omega)] | rw [if_pos (by omega)])); try rfl)) [nk.con.id] rfl) (by omega) (by unfold maxLen; omega) (show Below wd.heap.size wd _ from below_of).size ?_
                   intro A9 c9 w9 ho9 hm9 hst9
                   have ho5l := ho5.later
                   have hb9 : Below wd.heap.size wd w9 := below_stepA (ho5l _) hst9 (show Below wd.heap.size wd _ from below_of) (show Below wd.heap.size wd _ from below_of).size
                   have ld9 : Later wd w9 := ⟨hb9⟩)
                | fail))
            all_goals
              have lrw : Later wr w9 := lrd.trans ld9
              have lww : Later w w9 := lwd.trans ld9
              have l0w : Later w0 w9 := l0d.trans ld9
              have l99 : Later w9 w9 := Later.refl
              have hlen : (([] ++ pi.l) ++ [nk.con.id]).length = n + 1 := by rw [List.length_append, List.nil_append, c1h.out]; rfl
              have hp9 : PaOk w0.heap.size w9 ⟨A9, c9, ([] ++ pi.l) ++ [nk.con.id]⟩ := by
                have := ho9.mono l0d.below.size
                rw [← hlen] at this
                exact this
              have hox9 := hox.below lrw.below
              have hok9 := hide (fun (p : PaE) (hp : p ∈ nx) => (hokx.out p hp).below lrw.below)
              have hbx9 : Below wR.heap.size wR w9 := hbx.trans (lrw.below.mono hzx)
              have hblk := own_type hox9 (g := g7) rfl
              have hbput : ∀ u [Later w9 u], Below wR.heap.size wR (u.setCell ⟨g7, k, none⟩ (.slice A9 (n + 1) c9)) := fun u j => (hbx9.trans (j.below.mono hbx9.size)).setCell (p := ⟨g7, k, none⟩) hg7 _
              have hput : ∀ u [Later w9 u], Own PaE.cells 1 48 wR.heap.size (u.setCell ⟨g7, k, none⟩ (.slice A9 (n + 1) c9)) (.slice (some ⟨g7, 0, none⟩) q.length c4) (nx.set k ⟨A9, c9, ([] ++ pi.l) ++ [nk.con.id]⟩) := fun u j => by
                have := PaE.put (hox9.later u) hkx ⟨A9, c9, ([] ++ pi.l) ++ [nk.con.id]⟩
                simp only [PaE.v, hlen] at this
                exact this
              have hpput := hide (show ∀ u [Later w9 u], ∀ p ∈ nx.set k ⟨A9, c9, ([] ++ pi.l) ++ [nk.con.id]⟩, PaOk w0.heap.size (u.setCell ⟨g7, k, none⟩ (.slice A9 (n + 1) c9)) p from fun u j p hp => by
                obtain ⟨cs, hcs⟩ := own_type (hox9.later u) (g := g7) rfl
                rcases List.mem_or_eq_of_mem_set hp with hp | hp
                · exact ((hok9.out p hp).below j.below).set hcs _
                · rw [hp]; exact (hp9.below j.below).set hcs _)
              clear hp9
              by_cases d1 : pn.l.length = 0
              · have hR' := hide (show NxR (conL G) P n i (k + 1) (nx.set k ⟨A9, c9, ([] ++ pi.l) ++ [nk.con.id]⟩) from hR.out.put (by rw [best_yes Hc.out (by rw [← hpnB.out, decide_eq_true d1]; rfl)]; exact Hn.out.symm))
                simp only [d1] at PN
                go_wp2_with fail
                go_roundw
                case rel => exact ⟨k + 1, _, by omega, by go_num, hide (by rw [List.length_set]; exact hxn.out), hR', hput w9, hide (hpput.out w9), hbput w9⟩
                case measure => simp [intOf]; omega
              · have hnl : pn.l.length = n + 1 := hpnl.out.resolve_left d1
                have hLs : ∀ u [Later w9 u], Calls Tryz.prog 58 #[.slice A9 (n + 1) c9, .slice pn.A pn.l.length pn.c] u fun r w' => r = .returned (.bool (lessB (([] ++ pi.l) ++ [nk.con.id]) pn.l)) ∧ Below u.heap.size u w' := fun u j => by
                  have := less_any A9 c9 (([] ++ pi.l) ++ [nk.con.id]) pn.A pn.c pn.l u ((ho9.later u).at_ IDE.enc).2.2 (Own.at_ (Own.below hpno (lrw.trans j).below) IDE.enc).2.2 (by rw [hlen, hnl]; omega) (by omega)
                  rw [hlen] at this
                  exact this
                obtain ⟨lb, hlb⟩ : ∃ z, lessB (([] ++ pi.l) ++ [nk.con.id]) pn.l = z := ⟨_, rfl⟩
                rw [hlb] at hLs
                have Hlb := hide hlb
                clear hlb hnl
                have d1i : ¬ (pn.l.length : Int) = 0 := by omega
                cases lb
                · have hR' := hide (hR.out.same (best_less (by rw [← hpnB.out, decide_eq_false d1, ← Hn.out, Hlb.out]; rfl)))
                  go_wp2_with (go_at_call 58; refine (hLs _).mono ?_; rintro r w8 ⟨rfl, hb8⟩; have l8 := later hb8)
                  go_roundw
                  case rel => exact ⟨k + 1, nx, by omega, by go_num, hxn, hR', hox9.below hb8, hide (fun p hp => (hok9.out p hp).below hb8), hbx9.trans (hb8.mono hbx9.size)⟩
                  case measure => simp [intOf]; omega
                · have hR' := hide (show NxR (conL G) P n i (k + 1) (nx.set k ⟨A9, c9, ([] ++ pi.l) ++ [nk.con.id]⟩) from hR.out.put (by rw [best_yes Hc.out (by rw [← hpnB.out, ← Hn.out, Hlb.out, Bool.or_true])]; exact Hn.out.symm))
                  go_wp2_with (go_at_call 58; refine (hLs _).mono ?_; rintro r w8 ⟨rfl, hb8⟩; have l8 := later hb8)
                  go_roundw
                  case rel => exact ⟨k + 1, _, by omega, by go_num, hide (by rw [List.length_set]; exact hxn.out), hR', hput w8, hide (hpput.out w8), hbput w8⟩
                  case measure => simp [intOf]; omega
    obtain ⟨gx, ox, n, rfl, hn, NC, NF, -⟩ := (hN w).get hlt
    have hii : (i : Int) < (G.length : Int) := by omega
    have hT := hide (take_snoc_get hn)
    clear hn
    obtain ⟨bb, hbb⟩ : ∃ b, decide (n.con.id ∈ R) = b := ⟨_, rfl⟩
    have HH : ∀ u [Later w u], Calls Tryz.prog 19 #[.slice RA R.length rc, n.con.id.v] u fun r w' => r = .returned (.bool bb) ∧ Below u.heap.size u w' := fun u j => by rw [← hbb]; exact has21_any RA rc R n.con.id u (hRs u) (by omega)
    have hI := hide (fun (p : PaE) (hp : p.l = if bb then [n.con.id] else []) => init_take hT.out hbb hq.out hp)
    have hql : q.length ≤ 1000 := by rw [hqn.out]; omega
    clear hbb hq
    go_upto_region 6 with fail
    refine wp_name ?_
    intro w5 hw5
    have ho5 : PaOk w0.heap.size w5 ⟨some ⟨wr.heap.size, 0, none⟩, 0, []⟩ := Own.empty_blk hbr.size (by rw [← hw5]; exact heap_alloc_new _ _)
    have hb5 : Below wr.heap.size wr w5 := by rw [← hw5]; exact (by repeat (first | with_reducible exact Below.refl _ _ | (with_reducible refine Below.drew ?_) | (with_reducible refine below_drewN ?_ _) | (with_reducible refine Below.alloc ?_ ?_ _; rotate_left; (first | omega | (simp <;> omega))) | (with_reducible refine Below.setCell ?_ ?_ _; rotate_left; (first | omega | (simp <;> omega)))))
    clear hw5
    have lr5 : Later wr w5 := ⟨hb5⟩
    have l05 : Later w0 w5 := l0r.trans lr5
    have lw5 : Later w w5 := lw0.trans l05
    have l55 : Later w5 w5 := Later.refl
    obtain ⟨gp, hgp⟩ : ∃ z, z = wr.heap.size := ⟨_, rfl⟩
    rw [← hgp] at ho5 ⊢
    clear hgp
    have hzr := hbr.size
    cases bb
    · go_wp2_with (first
        | (go_at_call 19; refine (HH _).mono ?_; rintro r w6 ⟨rfl, hb6⟩; have l6 := later hb6)
        | (at_builtin; refine wpList_app1 rfl (.tmp 40) (.tmp 42) rfl PaE.enc paT (PaE.mk (some ⟨gp, 0, none⟩) 0 []) rfl rfl rfl (hoq.later _) (by rfl) (by omega) (by unfold maxLen; omega) (Nat.le_trans hzr (show Below wr.heap.size wr _ from below_of).size) ?_; intro A9 c9 w9 ho9 hm9 hb9 hg9 hat9; have hb9w : Below w0.heap.size w0 w9 := (show Below w0.heap.size w0 _ from below_of).trans hb9; have hn9 : PaOk w0.heap.size w9 ⟨some ⟨gp, 0, none⟩, 0, []⟩ := (ho5.below (show Below w5.heap.size w5 _ from below_of)).grown (hoq.later _) hg9; have hp9 := hide (fun (p : PaE) (hp : p ∈ q) => ((hok.out p hp).below (show Below wr.heap.size wr _ from below_of)).grown (hoq.later _) hg9)))
      go_roundw
      case rel => exact ⟨i + 1, q ++ [PaE.mk (some ⟨gp, 0, none⟩) 0 []], A9, c9, by omega, by go_num, by rw [List.length_append]; rfl, hide (hI.out _ rfl), hide (by rw [List.length_append, hqn.out]; rfl), by rw [List.length_append]; exact ho9, hide (fun p hp => by
        rcases List.mem_append.1 hp with hp | hp
        · exact hp9.out p hp
        · rw [List.mem_singleton] at hp; rw [hp]; exact hn9), hb9w⟩
      case measure => simp [intOf]; omega
    · go_wp2_with (first
        | (go_at_call 19; refine (HH _).mono ?_; rintro r w6 ⟨rfl, hb6⟩; have l6 := later hb6)
        | (at_builtin; refine wpList_app1 rfl (.tmp 40) (.tmp 42) rfl PaE.enc paT (PaE.mk (some ⟨w6.heap.size, 0, none⟩) 1 [n.con.id]) rfl rfl (by simp) (hoq.later _) (by rfl) (by omega) (by unfold maxLen; omega) (Nat.le_trans hzr (show Below wr.heap.size wr _ from below_of).size) ?_; intro A9 c9 w9 ho9 hm9 hb9 hg9 hat9; have hb9w : Below w0.heap.size w0 w9 := (show Below w0.heap.size w0 _ from below_of).trans hb9; have hn8 := own_one (x := n.con.id) (show w0.heap.size ≤ w6.heap.size from (show Below w0.heap.size w0 w6 from below_of).size) (heap_alloc_new w6 _); have hn9 : PaOk w0.heap.size w9 ⟨some ⟨w6.heap.size, 0, none⟩, 1, [n.con.id]⟩ := PaOk.grown (p := ⟨some ⟨w6.heap.size, 0, none⟩, 1, [n.con.id]⟩) hn8 (hoq.later _) hg9; have hp9 := hide (fun (p : PaE) (hp : p ∈ q) => ((hok.out p hp).below (show Below wr.heap.size wr _ from below_of)).grown (hoq.later _) hg9)))
      go_roundw
      case rel => exact ⟨i + 1, q ++ [PaE.mk (some ⟨w6.heap.size, 0, none⟩) 1 [n.con.id]], A9, c9, by omega, by go_num, by rw [List.length_append]; rfl, hide (hI.out _ rfl), hide (by rw [List.length_append, hqn.out]; rfl), by rw [List.length_append]; exact ho9, hide (fun p hp => by
        rcases List.mem_append.1 hp with hp | hp
        · exact hp9.out p hp
        · rw [List.mem_singleton] at hp; rw [hp]; exact hn9), hb9w⟩
      case measure => simp [intOf]; omega
end Go.Proofs.YtpkfenlfgdbkcaaGreatDoor

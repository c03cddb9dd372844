/-
  Contracts of the functions of this seat that each theorem names: what a call returns, and that it writes nothing that was there before. The conditions stand in each theorem.
-/
import Derived.Test.YtjegncmkebbdfaaDoorNodeApp
import Derived.Test.YtjegncmkebbdfaaDoorGSet
set_option linter.unusedSimpArgs false
set_option linter.unusedVariables false
namespace Go.Proofs.YtjegncmkebbdfaaDoor
open Go.RowKit
attribute [local go_sem ↓] run_eql_id run_neq_id
attribute [local simp] heap_drew
/-- A graph of the call's own: nodes and their fields. -/
structure OwnG (base : Nat) (w : World) (A : Option Addr) (c : Nat) (o : List NodeE) : Prop where
  s : Own NodeE.cells 5 36 base w (.slice A o.length c) o
  f : ∀ m ∈ o, Own ValE.cells 4 40 base w (.slice m.A m.fields.length m.c) m.fields
  c : ∀ m ∈ o, m.fields.length ≤ m.c ∧ m.c ≤ maxLen
theorem OwnG.below {base : Nat} {w w' : World} {A : Option Addr} {c : Nat} {o : List NodeE} (h : OwnG base w A c o) (hb : Below w.heap.size w w') : OwnG base w' A c o := ⟨h.s.below hb, fun m hm => (h.f m hm).below hb, h.c⟩
theorem OwnG.nil {base : Nat} {w : World} : OwnG base w none 0 [] := ⟨Own.nil, (fun m hm => by cases hm), (fun m hm => by cases hm)⟩
theorem OwnG.nodes {base : Nat} {w : World} {A : Option Addr} {c : Nat} {o : List NodeE} (h : OwnG base w A c o) : NodesAt w A o := ⟨(h.s.at_ NodeE.enc).2.2, fun m hm => ((h.f m hm).at_ ValE.enc).2.2, h.c⟩
/-- A store into a block of another type. -/
theorem OwnG.set {base : Nat} {w : World} {A : Option Addr} {c : Nat} {o : List NodeE} (h : OwnG base w A c o) {g : Nat} {cs : Array Value} {fr : Nat × Nat} (hg : w.heap[g]? = some (.cells cs 24 fr)) (i : Nat) (v : Value) : OwnG base (w.setCell ⟨g, i, none⟩ v) A c o :=
  ⟨h.s.far (p := ⟨g, i, none⟩) (own_off h.s hg (by decide)) v, fun m hm => (h.f m hm).far (p := ⟨g, i, none⟩) (own_off (h.f m hm) hg (by decide)) v, h.c⟩
theorem OwnG.putMap {base : Nat} {w : World} {A : Option Addr} {c : Nat} {o : List NodeE} (h : OwnG base w A c o) {g : Nat} {O : Obj} (hg : g < base) : OwnG base (putAt w g O) A c o :=
  ⟨h.s.putAt (fun e => absurd (World.ownsRow.lt h.s g e).1 (by omega)), fun m hm => (h.f m hm).putAt (fun e => absurd (World.ownsRow.lt (h.f m hm) g e).1 (by omega)), h.c⟩
theorem con_at (n : NodeE) (A : Option Addr) (c : Nat) : (nodeAt n A c).con = n.con := rfl
theorem conL_snoc (o : List NodeE) (n : NodeE) (A : Option Addr) (c : Nat) : conL (o ++ [nodeAt n A c]) = conL o ++ [n.con] := by unfold conL; rw [List.map_append]; rfl
def RestrSPost (l : List NodeE) (ks : List IDE) (w : World) (r : Ending) (w' : World) : Prop := ∃ o OA OC, Hid (conL o = restr (conL l) ks) ∧ r = .returned (.agg #[.slice OA o.length OC]) ∧ OwnG w.heap.size w' OA OC o ∧ Below w.heap.size w w'
theorem rest_take {L : List NodeC} {ks : List IDE} {k : Nat} {x : NodeC} (h : L[k]? = some x) : restr (L.take (k + 1)) ks = restr (L.take k) ks ++ if decide (x.id ∈ ks) then [x] else [] := by
  unfold restr
  rw [List.take_add_one, h]
  simp only [Option.toList_some, List.filter_append]
  congr 1
  by_cases hx : x.id ∈ ks <;> simp [hx]
set_option maxRecDepth 100000 in
set_option maxHeartbeats 16000000 in
theorem restrictS_any (A : Option Addr) (c : Nat) (l : List NodeE) (KA : Option Addr) (kc : Nat) (ks : List IDE) (w : World) (H : NodesAt w A l) (hK : SlAt IDE.cells 2 w KA ks) (hl : l.length ≤ 10000) (hkl : ks.length ≤ 1000000) (hf : ∀ n ∈ l, n.fields.length ≤ 1000000) :
    Calls Tryd.prog 18 #[.agg #[.slice A l.length c], .slice KA ks.length kc] w (RestrSPost l ks w) := by
  have HN := H.later
  have HK : ∀ u [Later w u], SlAt IDE.cells 2 u KA ks := fun u i => hK.below i.below
  have hmm := @run_makeMap Tryd.prog
  have hl' : l.length ≤ 9223372036854775807 := by omega
  have hkl' : ks.length ≤ 9223372036854775807 := by omega
  go_enter Tryd.func18, Tryd.ntmps18
  go_upto_region 2 with fail
  refine wp_name ?_
  intro w1 hw1
  have g1 : w1.heap[w.heap.size]? = some (.cells #[.slice A l.length c] 24 (0, 0)) := (by rw [← hw1]; simp only [heap_alloc_if, World.size_alloc]; repeat (first | rw [if_pos trivial] | rw [if_neg (by omega)] | rw [if_pos (by omega)]); try rfl)
  have r1 : w1.heap[w.heap.size + 1]? = some (.cells #[.slice none 0 0] 24 (0, 0)) := (by rw [← hw1]; simp only [heap_alloc_if, World.size_alloc]; repeat (first | rw [if_pos trivial] | rw [if_neg (by omega)] | rw [if_pos (by omega)]); try rfl)
  have b1 : w1.heap[w.heap.size + 1 + 1]? = some (.map #[] 0) := (by rw [← hw1]; simp only [heap_alloc_if, World.size_alloc]; repeat (first | rw [if_pos trivial] | rw [if_neg (by omega)] | rw [if_pos (by omega)]); try rfl)
  have hz1 : w1.heap.size = w.heap.size + 1 + 1 + 1 := by rw [← hw1]; simp
  have hb1 : Below w.heap.size w w1 := by rw [← hw1]; exact (by repeat (first | with_reducible exact Below.refl _ _ | (with_reducible refine Below.drew ?_) | (with_reducible refine below_drewN ?_ _) | (with_reducible refine Below.alloc ?_ ?_ _; rotate_left; (first | omega | (simp <;> omega))) | (with_reducible refine Below.setCell ?_ ?_ _; rotate_left; (first | omega | (simp <;> omega)))))
  have hM1 : MapFn IDE.vv Value.bool w1 (w.heap.size + 1 + 1) (memM []) := ⟨#[], 0, b1, by simp, by simp [memM], by simp⟩
  clear hw1 b1 hmm
  have l1 := later hb1
  obtain ⟨gM, hgM⟩ : ∃ g, g = w.heap.size + 1 + 1 := ⟨_, rfl⟩
  rw [← hgM] at hM1 hz1 ⊢
  have hgM' := hide hgM
  have hgMw : w.heap.size ≤ gM := by omega
  clear hgM
  go_wp2_with fail
  go_loopw [14] (fun i wr => ∃ k : Nat, k ≤ ks.length ∧ i = .int .i64 k ∧ MapFn IDE.vv Value.bool wr gM (memM (ks.take k)) ∧ wr.heap[w.heap.size]? = some (.cells #[.slice A l.length c] 24 (0, 0)) ∧ wr.heap[w.heap.size + 1]? = some (.cells #[.slice none 0 0] 24 (0, 0)) ∧ Below w.heap.size w wr ∧ gM < wr.heap.size) (fun i _ => ks.length - (intOf i).toNat)
  case atStart => exact ⟨0, by omega, rfl, hM1, g1, r1, hb1, by omega⟩
  case round =>
    clear hM1 g1 r1 hb1 hz1 l1
    obtain ⟨k, hk, rfl, hM, hG, hR, hbr, hzr⟩ := hrel
    have lr := later hbr
    have lrr : Later wr wr := Later.refl
    by_cases hlt : k < ks.length
    · obtain ⟨b, o, x, rfl, hx, C1⟩ := IDE.get (HK wr) hlt
      have hT := hide (take_snoc_get hx)
      have hki : (k : Int) < (ks.length : Int) := by omega
      clear hx
      go_upto_region 5 with fail
      refine wp_name ?_
      intro wx hwx
      obtain ⟨BX, lx⟩ := box1 hwx
      clear hwx
      have lxr : Later wr wx := lx wr
      obtain ⟨U, hU1, hU2, hU3, hU4⟩ := run_store keyI Tryd.underlying61 hM
      have hF := hide (hU2 wx x true)
      have hU1' := fun (u : World) [Later wr u] => hU1 u x true
      dsimp only [IDE.vv] at hU1'
      clear hU2
      have hG2 := blk_below hG lxr.below
      have hR2 := blk_below hR lxr.below
      have hbx : Below w.heap.size w wx := below_of
      have hzx := lxr.below.size
      go_wp2_with fail
      go_roundw
      case rel => exact ⟨k + 1, by omega, by go_num, by rw [hT.out, ← memM_snoc]; exact hF.out, (putAt_heap (by have := hgM'.out; omega)).trans hG2, (putAt_heap (by have := hgM'.out; omega)).trans hR2, putAt_below hbx hgMw, by rw [putAt_size]; omega⟩
      case measure => simp [intOf]; omega
    · have hk' : k = ks.length := by omega
      subst hk'
      rw [List.take_length] at hM
      obtain ⟨wE, rfl⟩ : ∃ z, z = wr := ⟨_, rfl⟩
      go_upto_region 8 with fail
      refine wp_name ?_
      intro w5 hw5
      have hO5 : w5.heap[wE.heap.size]? = some (.cells #[.slice none 0 0] 24 (0, 0)) := (by rw [← hw5]; simp only [heap_alloc_if, World.size_alloc]; repeat (first | rw [if_pos trivial] | rw [if_neg (by omega)] | rw [if_pos (by omega)]); try rfl)
      have hb5 : Below wE.heap.size wE w5 := by rw [← hw5]; exact (by repeat (first | with_reducible exact Below.refl _ _ | (with_reducible refine Below.drew ?_) | (with_reducible refine below_drewN ?_ _) | (with_reducible refine Below.alloc ?_ ?_ _; rotate_left; (first | omega | (simp <;> omega))) | (with_reducible refine Below.setCell ?_ ?_ _; rotate_left; (first | omega | (simp <;> omega)))))
      clear hw5
      have hG5 := blk_below hG hb5
      have hR5 := blk_below hR hb5
      have hM5 := hM.below hb5
      have hbw5 : Below w.heap.size w w5 := hbr.trans (hb5.mono hbr.size)
      obtain ⟨gO, hgO⟩ : ∃ g, g = wE.heap.size := ⟨_, rfl⟩
      rw [← hgO] at hO5 ⊢
      have hOG : gO ≠ w.heap.size := by have := hgM'.out; omega
      have hOR : gO ≠ w.heap.size + 1 := by have := hgM'.out; omega
      have hOM : gO ≠ gM := by omega
      have hOw : w.heap.size ≤ gO := by omega
      clear hM hG hR hbr hzr lr lrr hgO hb5
      have lw5 := later hbw5
      have l55 : Later w5 w5 := Later.refl
      have BG5 := boxed hG5
      go_wp2_with fail
      go_loopw [24] (fun iv wr => ∃ (k : Nat) (o : List NodeE) (OA : Option Addr) (OC : Nat), k ≤ l.length ∧ iv = .int .i64 k ∧ Hid (conL o = restr ((conL l).take k) ks) ∧ o.length ≤ k ∧ wr.heap[w.heap.size]? = some (.cells #[.slice A l.length c] 24 (0, 0)) ∧ wr.heap[w.heap.size + 1]? = some (.cells #[.slice none 0 0] 24 (0, 0)) ∧ wr.heap[gO]? = some (.cells #[.slice OA o.length OC] 24 (0, 0)) ∧ MapFn IDE.vv Value.bool wr gM (memM ks) ∧ OwnG w.heap.size wr OA OC o ∧ Below w.heap.size w wr) (fun iv _ => l.length - (intOf iv).toNat)
      case atStart => exact ⟨0, [], none, 0, by omega, rfl, hide rfl, by simp, hG5, hR5, hO5, hM5, OwnG.nil, hbw5⟩
      case round =>
        clear hG5 hR5 hO5 hM5 hbw5 lw5 l55 BG5
        obtain ⟨k, o, OA, OC, hk, rfl, ho, hok, hG, hR, hO, hM, hown, hbr⟩ := hrel
        have lr := later hbr
        have lrr : Later wr wr := Later.refl
        by_cases hlt : k < l.length
        · have hki : (k : Int) < (l.length : Int) := by omega
          obtain ⟨b1, o1, n, rfl, hn, C1, F1, hf1, hf2⟩ := (HN wr).get hlt
          have hnfl0 := hf n (List.mem_of_getElem? hn)
          have hFw := H.f n (List.mem_of_getElem? hn)
          have hcon : (conL l)[k]? = some n.con := by unfold conL; rw [List.getElem?_map, hn]; rfl
          have hTk := hide (rest_take (ks := ks) hcon)
          clear hn hcon
          go_upto_region 11 with fail
          refine wp_name ?_
          intro w3 hw3
          obtain ⟨nB, hnB⟩ : ∃ g, g = wr.heap.size := ⟨_, rfl⟩
          have hN3 : w3.heap[nB]? = some (.cells n.arr 36 (0, 0)) := by rw [hnB]; exact (by rw [← hw3]; simp only [heap_alloc_if, World.size_alloc]; repeat (first | rw [if_pos trivial] | rw [if_neg (by omega)] | rw [if_pos (by omega)]); try rfl)
          have hb3 : Below wr.heap.size wr w3 := by rw [← hw3]; exact (by repeat (first | with_reducible exact Below.refl _ _ | (with_reducible refine Below.drew ?_) | (with_reducible refine below_drewN ?_ _) | (with_reducible refine Below.alloc ?_ ?_ _; rotate_left; (first | omega | (simp <;> omega))) | (with_reducible refine Below.setCell ?_ ?_ _; rotate_left; (first | omega | (simp <;> omega)))))
          clear hw3
          obtain ⟨row, hrowe⟩ : ∃ r, r = (Value.slice OA o.length OC).ownBlock := ⟨_, rfl⟩
          have hrowN : ∀ k, row = some k → k < nB := fun k hk => by rw [hnB]; exact (World.ownsRow.lt hown.s k (hrowe ▸ hk)).2
          have hBn : nB < w3.heap.size := by rw [hnB]; exact blk_lt (hnB ▸ hN3)
          rw [← hnB]
          have hG3 := blk_below hG hb3
          have hR3 := blk_below hR hb3
          have hO3 := blk_below hO hb3
          have hM3 := hM.below hb3
          have how3 := hown.below hb3
          have hbw3 : Below w.heap.size w w3 := hbr.trans (hb3.mono hbr.size)
          have hNO : nB ≠ gO := by have := blk_lt hO; omega
          have hNM : nB ≠ gM := by have := hM.lt; omega
          have hNw : w.heap.size ≤ nB := by have := hbr.size; omega
          clear hG hR hO hM hown hbr lr lrr hb3 hnB
          have l33 : Later w3 w3 := Later.refl
          have lw3 : Later w w3 := ⟨hbw3⟩
          have BN := boxed hN3
          have HL : ∀ u [Later w3 u], (Instr.lookup 61 (.map (some gM)) (.agg #[.int .i64 n.iDMachine, .int .i64 n.iDSerial]) false).run Tryd.prog u = .ok (.bool (decide (n.con.id ∈ ks))) u := fun u i => by
            have := run_look keyI Tryd.underlying61 zeroBool (hM3.later u) n.id
            rw [memM_look] at this
            exact this
          cases hmem : decide (n.con.id ∈ ks) with
          | false =>
            simp only [hmem] at HL
            have ho2 := hide (show conL o = restr ((conL l).take (k + 1)) ks by rw [hTk.out, hmem, ho.out]; simp)
            clear hmem ho
            have hz := hide hbw3
            go_wp2_with fail
            go_roundw
            case rel => exact ⟨k + 1, o, OA, OC, by omega, by go_num, ho2, by omega, blk_below hG3 below_of, blk_below hR3 below_of, blk_below hO3 below_of, hM3.later _, how3.below below_of, below_of⟩
            case measure => simp [intOf]; omega
          | true =>
            simp only [hmem] at HL
            have ho2 := fun (A' : Option Addr) (c' : Nat) => hide (show conL (o ++ [nodeAt n A' c']) = restr ((conL l).take (k + 1)) ks by rw [conL_snoc, hTk.out, hmem, ho.out]; simp)
            clear hmem ho
            go_upto_region 12 with fail
            have hrow : ∀ k, row = some k → k < w3.heap.size := fun k hk => Nat.lt_trans (hrowN k hk) hBn
            have hown := how3.s
            have hflds := how3.f
            have hcs := how3.c
            have hnfl : n.fields.length ≤ 1000000000 := by omega
            have hrO : row ≠ some gO := by rw [hrowe]; exact own_off how3.s hO3 (by decide)
            have hrG : row ≠ some w.heap.size := by rw [hrowe]; exact own_off how3.s hG3 (by decide)
            have hrR : row ≠ some (w.heap.size + 1) := by rw [hrowe]; exact own_off how3.s hR3 (by decide)
            have hrM : row ≠ some gM := fun e => by
              rw [hrowe] at e
              obtain ⟨cs, h1⟩ := own_type how3.s e
              obtain ⟨es, cc, h2, _⟩ := hM3
              rw [h1] at h2; cases h2
            have hrN : row ≠ some nB := fun e => absurd (hrowN _ e) (by omega)
            have hwd : w3.heap.size = w3.drew.heap.size := rfl
            have hOld : ∀ u, w3.drew.grownBy u row → ∀ (g : Nat) (ob : Obj), w3.heap[g]? = some ob → row ≠ some g → u.heap[g]? = some ob := fun u hu g ob hg hne => (hu.block g (blk_lt hg) (fun e => hne e.symm)).trans hg
            have HOb : ∀ u, w3.drew.grownBy u row → u.heap[gO]? = some (.cells #[.slice OA o.length OC] 24 (0, 0)) := fun u hu => hOld u hu gO _ hO3 hrO
            have HOc : ∀ u, w3.drew.grownBy u row → u.cell? ⟨gO, 0, none⟩ = some (.slice OA o.length OC) := fun u hu => by have := blk_cell (HOb u hu) 0; simpa using this
            have HNc : ∀ u, w3.drew.grownBy u row → u.cell? ⟨nB, 0, none⟩ = some (.int .i64 n.iDMachine) ∧ u.cell? ⟨nB, 1, none⟩ = some (.int .i64 n.iDSerial) ∧ u.cell? ⟨nB, 2, none⟩ = some (.int .i64 n.kind) ∧ u.cell? ⟨nB, 3, none⟩ = some (.int .i64 n.clas) ∧ u.cell? ⟨nB, 4, none⟩ = some (.slice n.A n.fields.length n.c) := fun u hu => by
              have hb := hOld u hu nB _ hN3 hrN
              have k0 := blk_cell hb 0
              have k1 := blk_cell hb 1
              have k2 := blk_cell hb 2
              have k3 := blk_cell hb 3
              have k4 := blk_cell hb 4
              simp at k0 k1 k2 k3 k4
              exact ⟨k0, k1, k2, k3, k4⟩
            have hBelowU : ∀ u, w3.drew.grownBy u row → Below w.heap.size w u := fun u hu => by
              have hd : Below w.heap.size w w3.drew := hbw3.trans ((Below.refl _ _).drew.mono hbw3.size)
              exact hd.grown hu hbw3.size fun k hk => (World.ownsRow.lt how3.s k (hrowe ▸ hk)).1
            have HFn : ∀ u, w3.drew.grownBy u row → SlAt ValE.cells 4 u n.A n.fields := fun u hu => hFw.below (hBelowU u hu)
            have hzz := hbw3.size
            clear HL how3
            refine wp_region_invA (last := 7) (ap := 5) (row := row) (R := specRA [.is (.pointer (some ⟨gO, 0, none⟩)), .is (.slice OA o.length OC), .is n.v, SpecA.own hrow ValE.cells 4 40 (fun A c => .agg #[.int .i64 n.iDMachine, .int .i64 n.iDSerial, .int .i64 n.kind, .int .i64 n.clas, .slice A n.fields.length c]) n.fields, SpecA.nodeBlk hrow n, .any, .is (.pointer (some ⟨gO, 0, none⟩))]) (J := appJ w.heap.size o n OA OC) (by kernel_rfl) (specRA_mono (B := w3.heap.size) (row := row) _) (appJ_mono _ _ _ _ _) (by kernel_rfl) (by kernel_rfl) (by kernel_rfl) (appJ_start hown hflds (Below.refl _ _).drew) (steps_all ?_) ?_ ?_ (fun h => absurd h (by decide))
            · refine ⟨?_, ?_, ?_, ?_, ?_, ?_, ?_, ?_, trivial⟩
              · intro hne hne2 a u lu hN hO K hK
                (try simp only [Nat.zero_add, Nat.reduceAdd] at hN hK)
                have e0 : a.tmps.getD 8 undef = .pointer (some ⟨gO, 0, none⟩) := (hO 8 (out_get (by kernel_rfl))).trans rfl
                simp only [Array.getD_eq_getD_getElem?] at e0
                rw [if_pos (by rfl)]
                go_simp
                exact hK _ _ Later.refl rfl
              · intro hne hne2 a u lu hN hO K hK
                (try simp only [Nat.zero_add, Nat.reduceAdd] at hN hK)
                have e0 : a.tmps.getD 32 undef = .pointer (some ⟨gO, 0, none⟩) := hN 0 (needs_get (by kernel_rfl))
                simp only [Array.getD_eq_getD_getElem?] at e0
                have cO := HOc u lu
                rw [if_pos (by rfl)]
                go_simp
                exact hK _ _ Later.refl rfl
              · intro hne hne2 a u lu hN hO K hK
                (try simp only [Nat.zero_add, Nat.reduceAdd] at hN hK)
                have e0 : a.tmps.getD 10 undef = .pointer (some ⟨nB, 0, none⟩) := (hO 10 (out_get (by kernel_rfl))).trans rfl
                simp only [Array.getD_eq_getD_getElem?] at e0
                obtain ⟨c0, c1, c2, c3, c4⟩ := HNc u lu
                rw [if_pos (by rfl)]
                go_simp
                exact hK _ _ Later.refl rfl
              · intro hne hne2 a u lu hN hO K hK
                (try simp only [Nat.zero_add, Nat.reduceAdd] at hN hK)
                have e0 : a.tmps.getD 34 undef = n.v := hN 2 (needs_get (by kernel_rfl))
                simp only [Array.getD_eq_getD_getElem?] at e0
                rw [if_pos (by rfl)]
                go_simp
                refine (copyNode_any n u (HFn u lu) hnfl).mono ?_
                rintro r u' ⟨A, c, rfl, hc1, hc2, hco, hb⟩
                exact hK _ _ ⟨hb⟩ ⟨A, c, rfl, hc1, hc2, hco.mono lu.size⟩
              · intro hne hne2 a u lu hN hO K hK
                (try simp only [Nat.zero_add, Nat.reduceAdd] at hN hK)
                obtain ⟨A, c, e0, hc1, hc2, hco⟩ : ∃ A c, a.tmps.getD 35 undef = .agg #[.int .i64 n.iDMachine, .int .i64 n.iDSerial, .int .i64 n.kind, .int .i64 n.clas, .slice A n.fields.length c] ∧ n.fields.length ≤ c ∧ c ≤ maxLen ∧ Own ValE.cells 4 40 w3.heap.size u (.slice A n.fields.length c) n.fields := hN 3 (needs_get (by kernel_rfl))
                simp only [Array.getD_eq_getD_getElem?] at e0
                rw [if_pos (by rfl)]
                go_simp
                exact hK _ _ inferInstance ⟨A, c, u.heap.size, lu.size, rfl, heap_alloc_new _ _, hc1, hc2, hco.below ((Below.refl _ _).alloc (Nat.le_refl _) _)⟩
              · intro hne hne2 a u lu hN hO K hK
                (try simp only [Nat.zero_add, Nat.reduceAdd] at hN hK)
                exact absurd rfl hne2
              · intro hne hne2 a u lu hN hO K hK
                (try simp only [Nat.zero_add, Nat.reduceAdd] at hN hK)
                have e0 : a.tmps.getD 8 undef = .pointer (some ⟨gO, 0, none⟩) := (hO 8 (out_get (by kernel_rfl))).trans rfl
                simp only [Array.getD_eq_getD_getElem?] at e0
                rw [if_pos (by rfl)]
                go_simp
                exact hK _ _ Later.refl rfl
              · intro hne hne2 a u lu hN hO K hK
                (try simp only [Nat.zero_add, Nat.reduceAdd] at hN hK)
                exact absurd rfl hne
            · intro op hop
              simp only [List.getElem?_toArray, List.getElem?_cons_succ, List.getElem?_cons_zero] at hop
              injection hop with hop
              subst hop
              intro a u lu hst hN hO K hK
              have e1 : a.tmps.getD 33 undef = .slice OA o.length OC := hN 1 (needs_get (by kernel_rfl))
              obtain ⟨A, c, g, hgB, e4, hg, hc1, hc2, hco⟩ : ∃ A c g, w3.heap.size ≤ g ∧ a.tmps.getD 36 undef = .slice (some ⟨g, 0, none⟩) 1 1 ∧ u.heap[g]? = some (.cells (nodeArr n A c) 36 (0, 0)) ∧ n.fields.length ≤ c ∧ c ≤ maxLen ∧ Own ValE.cells 4 40 w3.heap.size u (.slice A n.fields.length c) n.fields := hN 4 (needs_get (by kernel_rfl))
              obtain ⟨hou, hfu⟩ := hst
              refine step_app2 (P := Tryd.prog) rfl (.tmp 33) (.tmp 36) (by rfl) NodeE.enc nodeT _ _ [nodeAt n A c] o (.slice OA o.length OC) e1 e4 (m := 1) (n := o.length + 1) rfl rfl hou (blk_slAt NodeE.enc (fr := (0, 0)) (e := 36) hg [nodeAt n A c] rfl) (by omega) (by unfold maxLen; omega) (Nat.le_trans hbw3.size lu.size) ?_
              intro A' c' u' ho' hm' hst'
              exact hK _ u' (by rw [hrowe]; exact hst'.1) trivial (appJ_done hou hfu hco hc1 hc2 (Nat.le_trans hbw3.size (Nat.le_refl _)) ho' hst')
            intro op hop a u hI K hK
            simp only [List.getElem?_toArray, List.getElem?_cons_succ, List.getElem?_cons_zero] at hop
            injection hop with hop
            subst hop
            have e6 : a.tmps.getD 38 undef = .pointer (some ⟨gO, 0, none⟩) := hI.got 6 (by decide) rfl
            obtain ⟨A, c, A', c', e5, ho5, hf5, hc1, hc2⟩ : ∃ A c A' c', a.tmps.getD 37 undef = .slice A' (o.length + 1) c' ∧ Own NodeE.cells 5 36 w.heap.size u (.slice A' (o.length + 1) c') (o ++ [nodeAt n A c]) ∧ (∀ m ∈ o ++ [nodeAt n A c], Own ValE.cells 4 40 w.heap.size u (.slice m.A m.fields.length m.c) m.fields) ∧ n.fields.length ≤ c ∧ c ≤ maxLen := hI.st
            have hgu := hI.grown
            have hdf : a.defers = [] := hI.defers.trans rfl
            have luu : Later u u := Later.refl
            have hOu := HOb u hgu
            have XO := boxed hOu
            simp only [Array.getD_eq_getD_getElem?] at e5 e6
            rw [if_pos (by rfl)]
            go_simp
            refine hK _ _ ?_
            have hTm := tmps_of (L := [32, 33, 34, 35, 36, 37, 38]) hI.size (fun t ht => hI.out t (fun hm => ht hm))
            clear hK K e5 e6 hI
            obtain ⟨atm, adf⟩ := a
            dsimp only at hTm hdf
            subst hdf
            simp only [List.foldl_cons, List.foldl_nil, List.setIfInBounds_toArray, List.set_cons_succ, List.set_cons_zero] at hTm
            generalize atm.getD 32 undef = v0 at hTm
            generalize atm.getD 33 undef = v1 at hTm
            generalize atm.getD 34 undef = v2 at hTm
            generalize atm.getD 35 undef = v3 at hTm
            generalize atm.getD 36 undef = v4 at hTm
            generalize atm.getD 37 undef = v5 at hTm
            generalize atm.getD 38 undef = v6 at hTm
            subst hTm
            have hG4 := (blk_far (p := ⟨gO, 0, none⟩) hOG.symm (.slice A' (o.length + 1) c')).trans (hOld u hgu w.heap.size _ hG3 hrG)
            have hR4 := (blk_far (p := ⟨gO, 0, none⟩) hOR.symm (.slice A' (o.length + 1) c')).trans (hOld u hgu _ _ hR3 hrR)
            have hO4 := blk_set hOu 0 (.slice A' (o.length + 1) c')
            have hM4 : MapFn IDE.vv Value.bool (u.setCell ⟨gO, 0, none⟩ (.slice A' (o.length + 1) c')) gM (memM ks) := by
              refine hM3.of_heap ?_
              rw [blk_far (p := ⟨gO, 0, none⟩) (show gM ≠ gO from hOM.symm)]
              obtain ⟨es, cc, h2, _⟩ := hM3
              rw [hOld u hgu gM _ h2 hrM, h2]
            have how4 : OwnG w.heap.size (u.setCell ⟨gO, 0, none⟩ (.slice A' (o.length + 1) c')) A' c' (o ++ [nodeAt n A c]) := OwnG.set (c := c') ⟨by simpa using ho5, hf5, fun m hm => by
              rcases List.mem_append.1 hm with hm | hm
              · exact hcs m hm
              · rw [List.mem_singleton] at hm; subst hm; exact ⟨hc1, hc2⟩⟩ hOu 0 _
            have hb4 := (hBelowU u hgu).setCell (p := ⟨gO, 0, none⟩) hOw (.slice A' (o.length + 1) c')
            have hoo := ho2 A c
            simp only [List.setIfInBounds_toArray, List.set_cons_zero] at hO4
            generalize u.setCell ⟨gO, 0, none⟩ (.slice A' (o.length + 1) c') = w4 at hG4 hR4 hO4 hM4 how4 hb4 ⊢
            have hlk : (o ++ [nodeAt n A c]).length = o.length + 1 := by simp
            go_wp2_with fail
            go_roundw
            case rel => exact ⟨k + 1, o ++ [nodeAt n A c], A', c', by omega, by go_num, hoo, by omega, hG4, hR4, by rw [hlk]; exact hO4, hM4, how4, hb4⟩
            case measure => simp [intOf]; omega
        · have hkk : k = l.length := by omega
          subst hkk
          have hfin := hide (show conL o = restr (conL l) ks by rw [ho.out, List.take_of_length_le]; unfold conL; rw [List.length_map]; exact Nat.le_refl _)
          clear ho
          have BR := boxed hR
          have BO := boxed hO
          go_wp2_with fail
          have rb := blk_cell (blk_set (show wr.heap[w.heap.size + 1]? = _ from hR) 0 (.slice OA o.length OC)) 0
          simp at rb
          refine bodyPost_ret (v := .agg #[.slice OA o.length OC]) ?_ rfl ?_
          · simp [results, Tryd.results18, go_sem, rb]
          · exact ⟨o, OA, OC, hfin, rfl, hown.set hR 0 _, hbr.setCell (p := ⟨w.heap.size + 1, 0, none⟩) (by simp) _⟩
end Go.Proofs.YtjegncmkebbdfaaDoor

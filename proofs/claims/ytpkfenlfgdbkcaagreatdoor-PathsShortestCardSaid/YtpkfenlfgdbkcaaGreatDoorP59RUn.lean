/-
  Contracts of the functions of this seat that each theorem names: what a call returns, and that it writes nothing that was there before. The conditions stand in each theorem.
-/
import Derived.Test.YtpkfenlfgdbkcaaGreatDoorP59Put
set_option linter.unusedSimpArgs false
set_option linter.unusedVariables false
namespace Go.Proofs.YtpkfenlfgdbkcaaGreatDoor
open Go.RowKit
theorem mergeN_mem {a b m : NodeC} (h : mergeN a b = some m) : m = a ∨ m = b := by
  unfold mergeN at h
  split at h
  · split at h
    · injection h with h; exact .inl h.symm
    · cases h
  · split at h
    · injection h with h
      split at h
      · exact .inr h.symm
      · exact .inl h.symm
    · cases h
theorem putN_mem {l l' : List NodeC} {n x : NodeC} (h : putN l n = some l') (hx : x ∈ l') : x ∈ l ∨ x = n := by
  have hins : x ∈ l.take (posN l n.id) ++ [n] ++ l.drop (posN l n.id) → x ∈ l ∨ x = n := fun hx => by
    rcases List.mem_append.1 hx with hx | hx
    · rcases List.mem_append.1 hx with hx | hx
      · exact .inl (List.mem_of_mem_take hx)
      · exact .inr (List.mem_singleton.1 hx)
    · exact .inl (List.mem_of_mem_drop hx)
  unfold putN at h
  split at h
  · next a ha =>
    split at h
    · obtain ⟨m, hm, rfl⟩ := Option.map_eq_some_iff.1 h
      rcases List.mem_or_eq_of_mem_set hx with hx | rfl
      · exact .inl hx
      · rcases mergeN_mem hm with rfl | rfl
        · exact .inl (List.mem_of_getElem? ha)
        · exact .inr rfl
    · injection h with h; subst h; exact hins hx
  · injection h with h; subst h; exact hins hx
theorem putAll_mem {ns : List NodeC} : ∀ {acc q : List NodeC} {x : NodeC}, putAll acc ns = some q → x ∈ q → x ∈ acc ∨ x ∈ ns := by
  induction ns with
  | nil => intro acc q x h hx; unfold putAll at h; injection h with h; subst h; exact .inl hx
  | cons n ns ih =>
    intro acc q x h hx
    unfold putAll at h
    split at h
    · cases h
    · next acc' ha =>
      rcases ih h hx with h1 | h1
      · rcases putN_mem ha h1 with h2 | rfl
        · exact .inl h2
        · exact .inr (List.mem_cons_self)
      · exact .inr (List.mem_cons_of_mem _ h1)
theorem unionC_bnd {ls : List (List NodeC)} {M N : Nat} (hN : ls.flatten.length ≤ N) (hM : ∀ L ∈ ls, ∀ x ∈ L, x.fields.length ≤ M) : (unionC ls).1.length ≤ N ∧ ∀ x ∈ (unionC ls).1, x.fields.length ≤ M := by
  unfold unionC
  split
  · split
    · next q hq =>
      refine ⟨by have := (putAll_sorted nil_sorted hq).2; simp only [List.length_nil] at this; show q.length ≤ N; omega, fun x hx => ?_⟩
      rcases putAll_mem hq hx with h | h
      · cases h
      · obtain ⟨L, hL, hx⟩ := List.mem_flatten.1 h
        exact hM L hL x hx
    · exact ⟨by simp, by simp⟩
  · exact ⟨by simp, by simp⟩
def UnionQ (p : List NodeC × Nat) (w : World) (r : Ending) (w' : World) : Prop := ∃ o OA OC, Hid (conL o = p.1) ∧ r = .returned (.tuple #[.agg #[.slice OA o.length OC], .int .i64 (p.2 : Nat)]) ∧ NodesAt w' OA o ∧ (o.length ≤ 10000 ∧ ∀ n ∈ o, n.fields.length ≤ 1000000) ∧ Below w.heap.size w w'
attribute [local go_sem ↓] run_eql_id run_neq_id
attribute [local go_sem] Oper.semAt_some
attribute [local simp] heap_drew
theorem unionQ_bad {gs : List GrE} {w w' : World} {r : Ending} {e : Nat} (h : Hid (unionC (conGs gs) = ([], e))) (hr : r = .returned (.tuple #[.agg #[.slice none 0 0], .int .i64 (e : Nat)])) (hb : Below w.heap.size w w') : UnionQ (unionC (conGs gs)) w r w' :=
  ⟨[], none, 0, hide (by rw [h.out]; rfl), by rw [h.out, hr]; rfl, (OwnG.nil (base := 0)).nodes, by simp, hb⟩
theorem slAt_far {α : Type} {f : α → List Value} {s : Nat} {w : World} {A : Option Addr} {l : List α} (h : SlAt f s w A l) {p : Addr} {v : Value} (hne : ∀ a : Addr, A = some a → a.block ≠ p.block) : SlAt f s (w.setCell p v) A l := fun hl => by
  obtain ⟨b, off, e, hlt, hc⟩ := h hl
  refine ⟨b, off, e, by simpa using hlt, fun k x hx j u hu => ?_⟩
  have h1 := hc k x hx j u hu
  have h2 := hne _ e
  dsimp only at h2
  rw [World.cell?_setCell_far _ _ _ _ (fun e => h2 e.symm)]
  exact h1
/-- A list of nodes whose fields are as they came in. -/
structure Keeps (w u : World) (A : Option Addr) (o : List NodeE) : Prop where
  s : SlAt NodeE.cells 5 u A o
  f : ∀ x ∈ o, SlAt ValE.cells 4 w x.A x.fields ∧ x.fields.length ≤ x.c ∧ x.c ≤ maxLen
  b : ∀ a : Addr, A = some a → a.block ≠ w.heap.size
theorem Keeps.nodes {w u : World} {A : Option Addr} {o : List NodeE} (h : Keeps w u A o) (hb : Below w.heap.size w u) : NodesAt u A o := ⟨h.s, fun x hx => (h.f x hx).1.below hb, fun x hx => (h.f x hx).2⟩
theorem Keeps.below {w u u' : World} {A : Option Addr} {o : List NodeE} (h : Keeps w u A o) (hb : Below u.heap.size u u') : Keeps w u' A o := ⟨h.s.below hb, h.f, h.b⟩
theorem Keeps.nil {w u : World} : Keeps w u none [] := ⟨SlAt.nil, (fun x hx => by cases hx), (fun a ha => by cases ha)⟩
theorem unionO_bnd {gs : List GrE} {j k : Nat} {g : GrE} {o : List NodeE} (hg : gs[j]? = some g) (hk : k ≤ g.l.length) (ht : (conGs gs).flatten.length ≤ 10000) (hf : ∀ g ∈ gs, ∀ n ∈ g.l, n.fields.length ≤ 1000000) (hp : putAll [] ((conGs (gs.take j)).flatten ++ (conL g.l).take k) = some (conL o)) : o.length ≤ 10000 ∧ ∀ x ∈ o, x.fields.length ≤ 1000000 := by
  have hsub : ∃ rest, (conGs gs).flatten = ((conGs (gs.take j)).flatten ++ (conL g.l).take k) ++ rest := by
    refine ⟨(conL g.l).drop k ++ (conGs (gs.drop (j + 1))).flatten, ?_⟩
    have h1 : (conGs gs).flatten = (conGs (gs.take (j + 1))).flatten ++ (conGs (gs.drop (j + 1))).flatten := by
      unfold conGs
      rw [← List.flatten_append, ← List.map_append, List.take_append_drop]
    rw [h1, conGs_take hg]
    have h2 := List.take_append_drop k (conL g.l)
    conv => lhs; rw [← h2]
    simp only [List.append_assoc]
  obtain ⟨rest, hr⟩ := hsub
  have h1 := (putAll_sorted nil_sorted hp).2
  have h2 := congrArg List.length hr
  rw [List.length_append] at h2
  have h3 : (conL o).length = o.length := by unfold conL; rw [List.length_map]
  rw [h3, List.length_nil] at h1
  refine ⟨by omega, fun x hx => ?_⟩
  rcases putAll_mem hp (List.mem_map.2 ⟨x, hx, rfl⟩) with h | h
  · cases h
  · have h4 : x.con ∈ (conGs gs).flatten := by rw [hr]; exact List.mem_append_left _ h
    obtain ⟨L, hL, hxL⟩ := List.mem_flatten.1 h4
    obtain ⟨g', hg', rfl⟩ := List.mem_map.1 hL
    obtain ⟨y, hy, e⟩ := List.mem_map.1 hxL
    have h5 : y.con.fields = x.con.fields := congrArg NodeC.fields e
    have h6 : y.fields = x.fields := h5
    rw [← h6]
    exact hf g' hg' y hy
set_option maxRecDepth 100000 in
set_option maxHeartbeats 16000000 in
theorem unionR_any (A : Option Addr) (c : Nat) (gs : List GrE) (w : World) (H : GraphsAt w A gs) (hl : gs.length ≤ 1000000000) (ht : (conGs gs).flatten.length ≤ 10000) (hgl : ∀ g ∈ gs, g.l.length ≤ 1000000000) (hf : ∀ g ∈ gs, ∀ n ∈ g.l, n.fields.length ≤ 1000000) :
    Calls Tryz.prog 57 #[.slice A gs.length c] w (UnionQ (unionC (conGs gs)) w) := by
  have HG := H.later
  have hl' : gs.length ≤ 9223372036854775807 := by omega
  go_enter Tryz.func57, Tryz.ntmps57
  go_upto_region 1 with fail
  refine wp_name ?_
  intro w1 hw1
  have r1 : w1.heap[w.heap.size]? = some (.cells #[.slice none 0 0] 36 (0, 0)) := (by rw [← hw1]; simp only [heap_alloc_if, World.size_alloc]; repeat (first | rw [if_pos trivial] | rw [if_neg (by omega)] | rw [if_pos (by omega)]); try rfl)
  have hb1 : Below w.heap.size w w1 := by rw [← hw1]; exact (by repeat (first | with_reducible exact Below.refl _ _ | (with_reducible refine Below.drew ?_) | (with_reducible refine below_drewN ?_ _) | (with_reducible refine Below.alloc ?_ ?_ _; rotate_left; (first | omega | (simp <;> omega))) | (with_reducible refine Below.setCell ?_ ?_ _; rotate_left; (first | omega | (simp <;> omega)))))
  clear hw1
  have l1 := later hb1
  go_wp2_with fail
  go_loopw [4] (fun i wr => ∃ k : Nat, k ≤ gs.length ∧ i = .int .i64 k ∧ Hid (∀ g ∈ gs.take k, valid16B (conL g.l) = true) ∧ wr.heap[w.heap.size]? = some (.cells #[.slice none 0 0] 36 (0, 0)) ∧ Below w.heap.size w wr) (fun i _ => gs.length - (intOf i).toNat)
  case atStart => exact ⟨0, by omega, rfl, hide (by simp), r1, hb1⟩
  case round =>
    clear r1 hb1 l1
    obtain ⟨k, hk, rfl, hv, hR, hbr⟩ := hrel
    have lr := later hbr
    have lrr : Later wr wr := Later.refl
    by_cases hlt : k < gs.length
    · have hki : (k : Int) < (gs.length : Int) := by omega
      obtain ⟨b0, o0, g, rfl, hg, C1, N1⟩ := (HG wr).get hlt
      have hgm := List.mem_of_getElem? hg
      have HV : ∀ u [Later wr u], Calls Tryz.prog 89 #[.agg #[.slice g.A g.l.length g.c]] u fun r w' => r = .returned (.bool (valid16B (conL g.l))) ∧ Below u.heap.size u w' := fun u i => valid16_any g.A g.c g.l u (N1 u) (hgl g hgm) (fun n hn => by have := hf g hgm n hn; omega)
      have hT := hide (take_snoc_get hg)
      cases hva : valid16B (conL g.l) with
      | false =>
        have hbad : Hid (unionC (conGs gs) = ([], 1)) := hide (unionC_bad (List.mem_map.2 ⟨g, hgm, rfl⟩) hva)
        simp only [hva] at HV
        clear hg hva hgm
        go_upto_region 5 with (go_at_call 89; refine (HV _).mono ?_; rintro r w4 ⟨rfl, hb4⟩; have l4 := later hb4)
        have hb44 : Below wr.heap.size wr w4 := below_of
        have hRx := blk_below hR hb44
        have hbx : Below w.heap.size w w4 := below_of
        have BR := boxed hRx
        have l44 : Later w4 w4 := Later.refl
        go_wp2_with fail
        have rb := blk_cell (blk_set hRx 0 (.slice none 0 0)) 0
        simp at rb
        refine bodyPost_ret (v := .tuple #[.agg #[.slice none 0 0], .int .i64 1]) ?_ rfl ?_
        · simp [results, Tryz.results57, go_sem, rb]
        · exact unionQ_bad (e := 1) hbad rfl (hbx.setCell (p := ⟨w.heap.size, 0, none⟩) (by simp) _)
      | true =>
        have hv2 : Hid (∀ g ∈ gs.take (k + 1), valid16B (conL g.l) = true) := hide fun g' hg' => by
          rw [hT.out] at hg'
          rcases List.mem_append.1 hg' with h | h
          · exact hv.out g' h
          · rw [List.mem_singleton.1 h]; exact hva
        simp only [hva] at HV
        clear hg hva hgm
        go_wp2_with (go_at_call 89; refine (HV _).mono ?_; rintro r w4 ⟨rfl, hb4⟩; have l4 := later hb4)
        go_roundw
        case rel =>
          have hb44 : Below wr.heap.size wr w4 := below_of
          exact ⟨k + 1, by omega, by go_num, hv2, blk_below hR hb44, below_of⟩
        case measure => simp [intOf]; omega
    · have hk' : k = gs.length := by omega
      subst hk'
      rw [List.take_length] at hv
      obtain ⟨wE, rfl⟩ : ∃ z, z = wr := ⟨_, rfl⟩
      go_upto_region 7 with fail
      refine wp_name ?_
      intro w2 hw2
      have hO2 : w2.heap[wE.heap.size]? = some (.cells #[.slice none 0 0] 36 (0, 0)) := (by rw [← hw2]; simp only [heap_alloc_if, World.size_alloc]; repeat (first | rw [if_pos trivial] | rw [if_neg (by omega)] | rw [if_pos (by omega)]); try rfl)
      have hb2 : Below wE.heap.size wE w2 := by rw [← hw2]; exact (by repeat (first | with_reducible exact Below.refl _ _ | (with_reducible refine Below.drew ?_) | (with_reducible refine below_drewN ?_ _) | (with_reducible refine Below.alloc ?_ ?_ _; rotate_left; (first | omega | (simp <;> omega))) | (with_reducible refine Below.setCell ?_ ?_ _; rotate_left; (first | omega | (simp <;> omega)))))
      clear hw2
      have hR2 := blk_below hR hb2
      have hbw2 : Below w.heap.size w w2 := hbr.trans (hb2.mono hbr.size)
      have hRl := blk_lt hR
      obtain ⟨gO, hgO⟩ : ∃ g, g = wE.heap.size := ⟨_, rfl⟩
      rw [← hgO] at hO2 hRl ⊢
      have hOw : w.heap.size ≤ gO := by rw [hgO]; exact hbr.size
      have hOR : gO ≠ w.heap.size := by omega
      clear hR hbr lr lrr hgO hb2
      go_wp2_with fail
      go_loopw [6] (fun i wr => ∃ (j : Nat) (o : List NodeE) (OA : Option Addr) (OC : Nat), j ≤ gs.length ∧ i = .int .i64 j ∧ Hid (putAll [] (conGs (gs.take j)).flatten = some (conL o)) ∧ wr.heap[gO]? = some (.cells #[.slice OA o.length OC] 36 (0, 0)) ∧ Keeps w wr OA o ∧ wr.heap[w.heap.size]? = some (.cells #[.slice none 0 0] 36 (0, 0)) ∧ Below w.heap.size w wr) (fun i _ => gs.length - (intOf i).toNat)
      case atStart => exact ⟨0, [], none, 0, by omega, rfl, hide rfl, hO2, Keeps.nil, hR2, hbw2⟩
      case round =>
        clear hO2 hR2 hbw2
        obtain ⟨j, o0, OA0, OC0, hj, rfl, hI, hO, hN, hR, hbr⟩ := hrel
        have lr := later hbr
        have lrr : Later wr wr := Later.refl
        by_cases hlt : j < gs.length
        · have hji : (j : Int) < (gs.length : Int) := by omega
          obtain ⟨b0, p0, g, rfl, hg, C1, N1⟩ := H.get hlt
          obtain ⟨gA, gc, gl⟩ := g
          dsimp only at C1 N1
          have Hgm := hide (List.mem_of_getElem? hg)
          have Hg := hide hg
          have hgl' : gl.length ≤ 9223372036854775807 := by have : gl.length ≤ _ := hgl _ Hgm.out; omega
          have NW : ∀ u [Later w u], NodesAt u gA gl := (H.n _ Hgm.out).later
          have CG : ∀ u [Later w u], u.cell? ⟨b0, p0 + j, none⟩ = some (.slice gA gl.length gc) := C1
          have hI3 : Hid (putAll [] ((conGs (gs.take j)).flatten ++ (conL gl).take 0) = some (conL o0)) := hide (by simpa using hI.out)
          have Hlt := hide hlt
          clear hg hI C1 N1 hlt
          go_wp2_with fail
          go_loopw [7] (fun i wr => ∃ (k : Nat) (o : List NodeE) (OA : Option Addr) (OC : Nat), k ≤ gl.length ∧ i = .int .i64 k ∧ Hid (putAll [] ((conGs (gs.take j)).flatten ++ (conL gl).take k) = some (conL o)) ∧ wr.heap[gO]? = some (.cells #[.slice OA o.length OC] 36 (0, 0)) ∧ Keeps w wr OA o ∧ wr.heap[w.heap.size]? = some (.cells #[.slice none 0 0] 36 (0, 0)) ∧ Below w.heap.size w wr) (fun i _ => gl.length - (intOf i).toNat)
          case atStart => exact ⟨0, o0, OA0, OC0, by omega, rfl, hI3, hO, hN, hR, hbr⟩
          case round =>
            clear hO hN hR hbr hI3 lr lrr
            obtain ⟨k, o, OA, OC, hk, rfl, hI, hO, hN, hR, hbr⟩ := hrel
            have lr := later hbr
            have lrr : Later wr wr := Later.refl
            have lww : Later w w := Later.refl
            obtain ⟨hol, hof⟩ := unionO_bnd Hg.out hk ht hf hI.out
            by_cases hlt : k < gl.length
            · have hki : (k : Int) < (gl.length : Int) := by omega
              have hji2 : (j : Int) < (gs.length : Int) := by have := Hlt.out; omega
              obtain ⟨b1, p1, n, rfl, hn, CN, FN, hf1, hf2⟩ := (NW w).get hlt
              have hnm := List.mem_of_getElem? hn
              have hnf : n.fields.length ≤ _ := hf _ Hgm.out n hnm
              have hTk := hide (conL_take hn)
              have hSp := hide (flat_split Hg.out hn)
              have HP : ∀ u [Later wr u], Calls Tryz.prog 90 #[.agg #[.slice OA o.length OC], .agg #[.int .i64 n.iDMachine, .int .i64 n.iDSerial, .int .i64 n.kind, .int .i64 n.clas, .slice n.A n.fields.length n.c]] u (PutGPost o n u) := fun u i => putG_any OA OC o n u (by haveI := (lr w).trans i; exact (hN.below i.below).nodes (inferInstance : Later w u).below) (by haveI := (lr w).trans i; exact FN u) ⟨hf1, hf2⟩ (by omega) (fun m hm => by have := hof m hm; omega) (by omega)
              have hsn : putAll [] ((conGs (gs.take j)).flatten ++ (conL gl).take (k + 1)) = putN (conL o) n.con := by rw [hTk.out, ← List.append_assoc]; exact putAll_snoc hI.out
              clear hn hnm
              cases hp : putN (conL o) n.con with
              | none =>
                have hF : Hid (unionC (conGs gs) = ([], 9)) := hide (by
                  obtain ⟨rest, hr⟩ := hSp.out
                  refine unionC_none hv.out ?_
                  rw [hr, putAll_app, hI.out]
                  show putAll (conL o) (n.con :: rest) = none
                  unfold putAll
                  rw [hp])
                have HP2 : ∀ u [Later wr u], Calls Tryz.prog 90 #[.agg #[.slice OA o.length OC], .agg #[.int .i64 n.iDMachine, .int .i64 n.iDSerial, .int .i64 n.kind, .int .i64 n.clas, .slice n.A n.fields.length n.c]] u fun r w' => ∃ QA m QC, r = .returned (.tuple #[.agg #[.slice QA m QC], .bool false]) ∧ Below u.heap.size u w' := fun u i => (HP u).mono fun r w' h => by
                  rcases h with ⟨o', _, _, h1, _, _, _, _⟩ | ⟨QA, m, QC, _, h2, h3⟩
                  · have := h1.out; rw [hp] at this; cases this
                  · exact ⟨QA, m, QC, h2, h3⟩
                clear hp hsn HP hSp hI
                go_upto_region 13 with fail
                refine wp_name ?_
                intro w3 hw3
                have lr3 := later_name' hw3 (inferInstance : Later wr _)
                have hb3 : Below wr.heap.size wr w3 := (lr3 wr).below
                have hO3 := blk_below hO hb3
                have q0 := blk_cell hO3 0
                simp at q0
                have q1 := CG w3
                obtain ⟨r0, r1, r2, r3, r4⟩ := CN w3
                have y0 := World.new_ne w3 _ q0
                have y1 := World.new_ne w3 _ q1
                have y2 := World.new_ne w3 _ r0
                dsimp only at y0 y1 y2
                have l33 : Later w3 w3 := Later.refl
                have hRl3 : w.heap.size < w3.heap.size := blk_lt (blk_below hR hb3)
                have hOl3 : gO < w3.heap.size := blk_lt hO3
                clear hw3
                go_region_held3 (fun w' => w'.cell? ⟨gO, 0, none⟩ = some (.slice OA o.length OC) ∧ w'.cell? ⟨b0, p0 + j, none⟩ = some (.slice (some ⟨b1, p1, none⟩) gl.length gc) ∧ w'.cell? ⟨b1, p1 + k * 5, none⟩ = some (.int .i64 n.iDMachine) ∧ w'.cell? ⟨b1, p1 + k * 5 + 1, none⟩ = some (.int .i64 n.iDSerial) ∧ w'.cell? ⟨b1, p1 + k * 5 + 2, none⟩ = some (.int .i64 n.kind) ∧ w'.cell? ⟨b1, p1 + k * 5 + 3, none⟩ = some (.int .i64 n.clas) ∧ w'.cell? ⟨b1, p1 + k * 5 + 4, none⟩ = some (.slice n.A n.fields.length n.c)) (first | go_keep)
                  ((first
                    | (go_at_call 90
                       refine (HP2 _).mono ?_
                       rintro r w8 ⟨QA, m, QC, rfl, hb8⟩
                       have l8 := later hb8
                       have l38 : Later w3 w8 := inferInstance
                       have hO8 := blk_below hO3 l38.below
                       have hR8 := blk_below hR (inferInstance : Later wr w8).below
                       have hbw8 : Below w.heap.size w w8 := below_of
                       have hz8 : w3.heap.size ≤ w8.heap.size := l38.below.size
                       have z0 := blk_cell hO8 0
                       simp at z0
                       have z1 := CG w8
                       obtain ⟨t0, t1, t2, t3, t4⟩ := CN w8
                       have x0 := World.new_ne w8 _ z0
                       have x1 := World.new_ne w8 _ z1
                       have x2 := World.new_ne w8 _ t0
                       dsimp only at x0 x1 x2
                       first
                         | (have xb : w8.heap[w3.heap.size]? = some (.cells #[.slice none 0 0] 36 (0, 0)) := by
                              refine blk_below ?_ hb8
                              exact heap_alloc_new _ _
                            have XB := boxed xb)
                         | skip
                       have l88 : Later w8 w8 := Later.refl)
                    | fail))
                · go_upto_region 14 with fail
                  refine wp_name ?_
                  intro w9 hw9
                  have hb9 : Below w8.heap.size w8 w9 := by rw [← hw9]; exact (by repeat (first | with_reducible exact Below.refl _ _ | (with_reducible refine Below.drew ?_) | (with_reducible refine below_drewN ?_ _) | (with_reducible refine Below.alloc ?_ ?_ _; rotate_left; (first | omega | (simp <;> omega))) | (with_reducible refine Below.setCell ?_ ?_ _; rotate_left; (first | omega | (simp <;> omega)))))
                  clear hw9
                  have hRx := blk_below hR8 hb9
                  have hbx : Below w.heap.size w w9 := hbw8.trans (hb9.mono hbw8.size)
                  have BR := boxed hRx
                  have l99 : Later w9 w9 := Later.refl
                  go_wp2_with fail
                  have rb := blk_cell (blk_set hRx 0 (.slice none 0 0)) 0
                  simp at rb
                  refine bodyPost_ret (v := .tuple #[.agg #[.slice none 0 0], .int .i64 9]) ?_ rfl ?_
                  · simp [results, Tryz.results57, go_sem, rb]
                  · exact unionQ_bad (e := 9) hF rfl (hbx.setCell (p := ⟨w.heap.size, 0, none⟩) (by simp) _)
                · go_upto_region 14 with fail
                  refine wp_name ?_
                  intro w9 hw9
                  have hRx : w9.heap[w.heap.size]? = some (.cells #[.slice none 0 0] 36 (0, 0)) := by
                    rw [← hw9, blk_far (by simp; omega)]
                    exact hR8
                  have hbx : Below w.heap.size w w9 := by rw [← hw9]; exact (by repeat (first | with_reducible exact hbw8 | with_reducible exact Below.refl _ _ | (with_reducible refine Below.drew ?_) | (with_reducible refine below_drewN ?_ _) | (with_reducible refine Below.alloc ?_ ?_ _; rotate_left; (first | omega | (simp <;> omega))) | (with_reducible refine Below.setCell ?_ ?_ _; rotate_left; (first | omega | (simp <;> omega)))))
                  clear hw9
                  have BR := boxed hRx
                  have l99 : Later w9 w9 := Later.refl
                  go_wp2_with fail
                  have rb := blk_cell (blk_set hRx 0 (.slice none 0 0)) 0
                  simp at rb
                  refine bodyPost_ret (v := .tuple #[.agg #[.slice none 0 0], .int .i64 9]) ?_ rfl ?_
                  · simp [results, Tryz.results57, go_sem, rb]
                  · exact unionQ_bad (e := 9) hF rfl (hbx.setCell (p := ⟨w.heap.size, 0, none⟩) (by simp) _)
              | some q =>
                have HP2 : ∀ u [Later wr u], Calls Tryz.prog 90 #[.agg #[.slice OA o.length OC], .agg #[.int .i64 n.iDMachine, .int .i64 n.iDSerial, .int .i64 n.kind, .int .i64 n.clas, .slice n.A n.fields.length n.c]] u fun r w' => ∃ o' QA QC, Hid (conL o' = q) ∧ r = .returned (.tuple #[.agg #[.slice QA o'.length QC], .bool true]) ∧ Keeps w w' QA o' ∧ (∀ a : Addr, QA = some a → u.heap.size ≤ a.block) ∧ Below u.heap.size u w' := fun u i => (HP u).mono fun r w' h => by
                  rcases h with ⟨o', QA, QC, h1, h2, h3, ⟨h4, h6⟩, h7⟩ | ⟨_, _, _, h1, _⟩
                  · have h5 := h1.out
                    rw [hp] at h5
                    injection h5 with h5
                    exact ⟨o', QA, QC, hide h5.symm, h2, ⟨h3.s, fun x hx => by
                      rcases h4 x hx with h | rfl
                      · exact hN.f x h
                      · exact ⟨FN w, hf1, hf2⟩, fun a ha => by
                      have e1 := h6 a ha
                      have e2 := i.below.size
                      have e3 := blk_lt hR
                      omega⟩, h6, h7⟩
                  · have := h1.out; rw [hp] at this; cases this
                have hI2 : Hid (putAll [] ((conGs (gs.take j)).flatten ++ (conL gl).take (k + 1)) = some q) := hide (by rw [hsn, hp])
                clear hp hsn HP hSp hI
                go_upto_region 13 with fail
                refine wp_name ?_
                intro w3 hw3
                have lr3 := later_name' hw3 (inferInstance : Later wr _)
                have hb3 : Below wr.heap.size wr w3 := (lr3 wr).below
                have hO3 := blk_below hO hb3
                have q0 := blk_cell hO3 0
                simp at q0
                have q1 := CG w3
                obtain ⟨r0, r1, r2, r3, r4⟩ := CN w3
                have y0 := World.new_ne w3 _ q0
                have y1 := World.new_ne w3 _ q1
                have y2 := World.new_ne w3 _ r0
                dsimp only at y0 y1 y2
                have l33 : Later w3 w3 := Later.refl
                have hRl3 : w.heap.size < w3.heap.size := blk_lt (blk_below hR hb3)
                have hOl3 : gO < w3.heap.size := blk_lt hO3
                clear hw3
                go_region_held3 (fun w' => w'.cell? ⟨gO, 0, none⟩ = some (.slice OA o.length OC) ∧ w'.cell? ⟨b0, p0 + j, none⟩ = some (.slice (some ⟨b1, p1, none⟩) gl.length gc) ∧ w'.cell? ⟨b1, p1 + k * 5, none⟩ = some (.int .i64 n.iDMachine) ∧ w'.cell? ⟨b1, p1 + k * 5 + 1, none⟩ = some (.int .i64 n.iDSerial) ∧ w'.cell? ⟨b1, p1 + k * 5 + 2, none⟩ = some (.int .i64 n.kind) ∧ w'.cell? ⟨b1, p1 + k * 5 + 3, none⟩ = some (.int .i64 n.clas) ∧ w'.cell? ⟨b1, p1 + k * 5 + 4, none⟩ = some (.slice n.A n.fields.length n.c)) (first | go_keep)
                  ((first
                    | (go_at_call 90
                       refine (HP2 _).mono ?_
                       rintro r w8 ⟨o', QA, QC, hq', rfl, hK', hQ0, hb8⟩
                       have hQ : ∀ a : Addr, QA = some a → w3.heap.size ≤ a.block := fun a ha => by have := hQ0 a ha; simp at this; omega
                       have l8 := later hb8
                       have l38 : Later w3 w8 := inferInstance
                       have hO8 := blk_below hO3 l38.below
                       have hR8 := blk_below hR (inferInstance : Later wr w8).below
                       have hbw8 : Below w.heap.size w w8 := below_of
                       have hz8 : w3.heap.size ≤ w8.heap.size := l38.below.size
                       have z0 := blk_cell hO8 0
                       simp at z0
                       have z1 := CG w8
                       obtain ⟨t0, t1, t2, t3, t4⟩ := CN w8
                       have x0 := World.new_ne w8 _ z0
                       have x1 := World.new_ne w8 _ z1
                       have x2 := World.new_ne w8 _ t0
                       dsimp only at x0 x1 x2
                       first
                         | (have xb : w8.heap[w3.heap.size]? = some (.cells #[.slice none 0 0] 36 (0, 0)) := by
                              refine blk_below ?_ hb8
                              exact heap_alloc_new _ _
                            have XB := boxed xb)
                         | skip
                       have l88 : Later w8 w8 := Later.refl)
                    | fail))
                · go_upto_region 14 with fail
                  refine wp_name ?_
                  intro w9 hw9
                  have h9 : w9.heap[w8.heap.size]? = some (.cells #[.slice QA o'.length QC] 36 (0, 0)) := (by rw [← hw9]; simp only [heap_alloc_if, World.size_alloc]; repeat (first | rw [if_pos trivial] | rw [if_neg (by omega)] | rw [if_pos (by omega)]); try rfl)
                  have hb9 : Below w8.heap.size w8 w9 := by rw [← hw9]; exact (by repeat (first | with_reducible exact Below.refl _ _ | (with_reducible refine Below.drew ?_) | (with_reducible refine below_drewN ?_ _) | (with_reducible refine Below.alloc ?_ ?_ _; rotate_left; (first | omega | (simp <;> omega))) | (with_reducible refine Below.setCell ?_ ?_ _; rotate_left; (first | omega | (simp <;> omega)))))
                  clear hw9
                  have hR9 := blk_below hR8 hb9
                  have hO9 := blk_below hO8 hb9
                  have K9 := hK'.below hb9
                  have hbx : Below w.heap.size w w9 := hbw8.trans (hb9.mono hbw8.size)
                  have BX := boxed h9
                  have BO := boxed hO9
                  have l99 : Later w9 w9 := Later.refl
                  have hs := blk_set hO9 0 (.slice QA o'.length QC)
                  simp only [List.setIfInBounds_toArray, List.set_cons_zero] at hs
                  have hr := (blk_far (p := ⟨gO, 0, none⟩) hOR.symm (.slice QA o'.length QC)).trans hR9
                  have hk9 : Keeps w (w9.setCell ⟨gO, 0, none⟩ (.slice QA o'.length QC)) QA o' := ⟨slAt_far K9.s (fun a ha => by have := hQ a ha; dsimp only; omega), K9.f, K9.b⟩
                  have hbz := hbx.setCell (p := ⟨gO, 0, none⟩) hOw (.slice QA o'.length QC)
                  have hI3 := hide (show putAll [] ((conGs (gs.take j)).flatten ++ (conL gl).take (k + 1)) = some (conL o') by rw [hI2.out, hq'.out])
                  go_wp2_with fail
                  go_roundw
                  case rel => exact ⟨k + 1, o', QA, QC, by omega, by go_num, hI3, hs, hk9, hr, hbz⟩
                  case measure => simp [intOf]; omega
                · go_upto_region 14 with fail
                  refine wp_name ?_
                  intro w9 hw9
                  have hQ1 : ∀ a : Addr, QA = some a → w3.heap.size < a.block := fun a ha => by have := hQ0 a ha; simp at this; omega
                  have h9 : w9.heap[w3.heap.size]? = some (.cells #[.slice QA o'.length QC] 36 (0, 0)) := by
                    have b5 := blk_set xb 0 (.slice QA o'.length QC)
                    simp at b5
                    rw [← hw9]
                    exact b5
                  have hR9 : w9.heap[w.heap.size]? = some (.cells #[.slice none 0 0] 36 (0, 0)) := by
                    rw [← hw9, blk_far (by simp; omega)]
                    exact hR8
                  have hO9 : w9.heap[gO]? = some (.cells #[.slice OA o.length OC] 36 (0, 0)) := by
                    rw [← hw9, blk_far (by simp; omega)]
                    exact hO8
                  have K9 : Keeps w w9 QA o' := ⟨by rw [← hw9]; exact slAt_far hK'.s (fun a ha => by have := hQ1 a ha; dsimp only; omega), hK'.f, hK'.b⟩
                  have hbx : Below w.heap.size w w9 := by rw [← hw9]; exact (by repeat (first | with_reducible exact hbw8 | with_reducible exact Below.refl _ _ | (with_reducible refine Below.drew ?_) | (with_reducible refine below_drewN ?_ _) | (with_reducible refine Below.alloc ?_ ?_ _; rotate_left; (first | omega | (simp <;> omega))) | (with_reducible refine Below.setCell ?_ ?_ _; rotate_left; (first | omega | (simp <;> omega)))))
                  clear hw9
                  have BX := boxed h9
                  have BO := boxed hO9
                  have l99 : Later w9 w9 := Later.refl
                  have hs := blk_set hO9 0 (.slice QA o'.length QC)
                  simp only [List.setIfInBounds_toArray, List.set_cons_zero] at hs
                  have hr := (blk_far (p := ⟨gO, 0, none⟩) hOR.symm (.slice QA o'.length QC)).trans hR9
                  have hk9 : Keeps w (w9.setCell ⟨gO, 0, none⟩ (.slice QA o'.length QC)) QA o' := ⟨slAt_far K9.s (fun a ha => by have := hQ a ha; dsimp only; omega), K9.f, K9.b⟩
                  have hbz := hbx.setCell (p := ⟨gO, 0, none⟩) hOw (.slice QA o'.length QC)
                  have hI3 := hide (show putAll [] ((conGs (gs.take j)).flatten ++ (conL gl).take (k + 1)) = some (conL o') by rw [hI2.out, hq'.out])
                  go_wp2_with fail
                  go_roundw
                  case rel => exact ⟨k + 1, o', QA, QC, by omega, by go_num, hI3, hs, hk9, hr, hbz⟩
                  case measure => simp [intOf]; omega
            · have hk' : k = gl.length := by omega
              subst hk'
              have hI2 : Hid (putAll [] (conGs (gs.take (j + 1))).flatten = some (conL o)) := hide (by
                rw [conGs_take Hg.out]
                have h := hI.out
                have e : (conL gl).take gl.length = conL gl := List.take_of_length_le (by unfold conL; rw [List.length_map]; exact Nat.le_refl _)
                rw [e] at h
                exact h)
              have hjs := Hlt.out
              have hji2 : (j : Int) < (gs.length : Int) := by omega
              go_wp2_with fail
              go_roundw
              case rel => exact ⟨j + 1, o, OA, OC, by omega, by go_num, hI2, hO, hN, hR, hbr⟩
              case measure => simp [intOf]; omega
        · have hk' : j = gs.length := by omega
          subst hk'
          rw [List.take_length] at hI
          have hU := hide (unionC_some hv.out hI.out)
          obtain ⟨bl, bf⟩ := unionC_bnd (M := 1000000) ht (fun L hL x hx => by
            obtain ⟨y, hy, rfl⟩ := List.mem_map.1 hL
            obtain ⟨n, hn, rfl⟩ := List.mem_map.1 hx
            exact hf y hy n hn)
          rw [hU.out] at bl bf
          have hbd : o0.length ≤ 10000 ∧ ∀ n ∈ o0, n.fields.length ≤ 1000000 := ⟨by have : (conL o0).length ≤ 10000 := bl; unfold conL at this; rw [List.length_map] at this; exact this, fun n hn => bf n.con (List.mem_map.2 ⟨n, hn, rfl⟩)⟩
          have Hbd := hide hbd
          clear hI bl bf hbd
          have BO := boxed hO
          have BR := boxed hR
          go_wp2_with fail
          have rb := blk_cell (blk_set hR 0 (.slice OA0 o0.length OC0)) 0
          simp at rb
          refine bodyPost_ret (v := .tuple #[.agg #[.slice OA0 o0.length OC0], .int .i64 0]) ?_ rfl ?_
          · simp [results, Tryz.results57, go_sem, rb]
          · refine ⟨o0, OA0, OC0, hide (by rw [hU.out]), by rw [hU.out]; rfl, ?_, Hbd.out, hbr.setCell (p := ⟨w.heap.size, 0, none⟩) (by simp) _⟩
            have hbs := hbr.setCell (p := ⟨w.heap.size, 0, none⟩) (by simp) (.slice OA0 o0.length OC0)
            exact Keeps.nodes (w := w) ⟨slAt_far hN.s hN.b, hN.f, hN.b⟩ hbs
end Go.Proofs.YtpkfenlfgdbkcaaGreatDoor

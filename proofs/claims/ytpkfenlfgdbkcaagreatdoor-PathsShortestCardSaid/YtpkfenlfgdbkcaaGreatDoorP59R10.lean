/-
  Contracts of the functions of this seat that each theorem names: what a call returns, and that it writes nothing that was there before. The conditions stand in each theorem.
-/
import Derived.Test.YtpkfenlfgdbkcaaGreatDoorP59R9
import Derived.Test.YtpkfenlfgdbkcaaGreatDoorP59Roots
import Derived.Deep.RegionHeld3
set_option linter.unusedSimpArgs false
set_option linter.unusedVariables false
namespace Go.Proofs.YtpkfenlfgdbkcaaGreatDoor
open Go.RowKit
attribute [local go_sem] Oper.semAt_some Instr.makeFunc
attribute [local simp] heap_drew
attribute [local go_sem ↓] load_view_pre load_flight_pre load_msg_pre store_view_pre store_flight_pre store_msg_pre load_scion_pre store_scion_pre
attribute [local go_sem] load_view load_flight load_msg store_view store_flight store_msg load_scion store_scion view_isRow zero_isRow scion_isRow zeroS_isRow rowFree_new setRow_new view_arr0 view_arr2 view_arr3 view_arr4 view_arr5 view_arr6 view_arr9 view_arr10 flight_arr0 flight_arr1 flight_arr2 flight_arr3 flight_arr6 flight_arr7 flight_arr8 flight_arr9 flight_arr10 flight_arr11 flight_arr12 flight_arr13 flight_arr17 flight_arr18 flight_arr19 flight_arr20 flight_arr21 flight_arr22 flight_arr23 flight_arr24 flight_arr25 msg_arr0 msg_arr1 msg_arr4 msg_arr5 msg_arr6 msg_arr7 msg_arr8 msg_arr9 msg_arr10 msg_arr11 msg_arr15 msg_arr16 msg_arr17 msg_arr18 msg_arr19 msg_arr20 msg_arr21 msg_arr22 msg_arr23
attribute [local go_sem ↓] run_eql_id run_neq_id
theorem box_keptA {α : Type} {f : α → List Value} {s : Nat} {e : TypeId} {W w9 : World} {v v' : Value} {base gx : Nat} {l : List α} {cs : Array Value} {t : TypeId} (ho : Own f s e base W v l) (hs : Step W w9 v v') (hb : W.heap[gx]? = some (.cells cs t (0, 0))) (hne : e ≠ t) : w9.heap[gx]? = some (.cells cs t (0, 0)) :=
  (hs.1.block gx (blk_lt hb) (fun e => own_off ho hb hne e.symm)).trans hb
theorem box_keptG {α : Type} {f : α → List Value} {s : Nat} {e : TypeId} {W w9 : World} {v : Value} {base gx : Nat} {l : List α} {cs : Array Value} {t : TypeId} (ho : Own f s e base W v l) (hs : W.grownBy w9 v.ownBlock) (hb : W.heap[gx]? = some (.cells cs t (0, 0))) (hne : e ≠ t) : w9.heap[gx]? = some (.cells cs t (0, 0)) :=
  (hs.block gx (blk_lt hb) (fun e => own_off ho hb hne e.symm)).trans hb
def rrootsY (V : List ViewE) (v : ViewE) (y : FlightE) : List IDE := if flyB V v y then rrootsF V v.machine y else []
def rrootsW (V : List ViewE) (v : ViewE) : List IDE := v.names.map NamedE.ref ++ v.mail.flatMap rootsM ++ v.flights.flatMap (rrootsY V v)
theorem rrootsF_mem {V : List ViewE} {v : ViewE} {y : FlightE} {x : IDE} : x ∈ rrootsF V v.machine y ↔ x ∈ rootsF V (v, y) := by
  unfold rrootsF rootsF
  split
  · show x ∈ _ ++ [_] ↔ x ∈ numId V v.machine y.dst y.msg.number :: y.msg.letter.args.map (refId V v.machine y.dst)
    simp only [List.mem_append, List.mem_cons, List.not_mem_nil, or_false]
    exact Or.comm
  · rfl
theorem rrootsY_mem {V : List ViewE} {v : ViewE} {y : FlightE} {x : IDE} : x ∈ rrootsY V v y ↔ flyB V v y = true ∧ x ∈ rootsF V (v, y) := by
  unfold rrootsY
  split
  · next h => rw [rrootsF_mem]; simp [h]
  · next h => simp [h]
theorem rroots_mem {V : List ViewE} {x : IDE} : x ∈ V.flatMap (rrootsW V) ↔ x ∈ rootsRaw V := by
  unfold rootsRaw flightsOf
  rw [List.mem_append, List.mem_flatMap, List.mem_flatMap, List.mem_flatMap]
  constructor
  · rintro ⟨v, hv, hx⟩
    unfold rrootsW at hx
    rcases List.mem_append.1 hx with hx | hx
    · exact .inl ⟨v, hv, hx⟩
    · obtain ⟨y, hy, hx⟩ := List.mem_flatMap.1 hx
      obtain ⟨h1, h2⟩ := rrootsY_mem.1 hx
      exact .inr ⟨(v, y), List.mem_flatMap.2 ⟨v, hv, List.mem_map.2 ⟨y, List.mem_filter.2 ⟨hy, h1⟩, rfl⟩⟩, h2⟩
  · rintro (⟨v, hv, hx⟩ | ⟨p, hp, hx⟩)
    · exact ⟨v, hv, List.mem_append_left _ hx⟩
    · obtain ⟨v, hv, hp⟩ := List.mem_flatMap.1 hp
      obtain ⟨y, hy, rfl⟩ := List.mem_map.1 hp
      obtain ⟨hy, h1⟩ := List.mem_filter.1 hy
      exact ⟨v, hv, List.mem_append_right _ (List.mem_flatMap.2 ⟨y, hy, rrootsY_mem.2 ⟨h1, hx⟩⟩)⟩
theorem rroots_eq (V : List ViewE) : minI (setI (V.flatMap (rrootsW V))) [zeroI] = rootsV V := by
  unfold minI rootsV
  refine sortedI_unique (setI_sorted _) (List.Pairwise.filter _ (setI_sorted _)) fun x => ?_
  rw [setI_mem, List.mem_filter, List.mem_filter, setI_mem, setI_mem, rroots_mem]
  simp
theorem rrootsF_len {V : List ViewE} {frm : Int} {y : FlightE} (hy : FewF y) : (rrootsF V frm y).length ≤ 28 := by
  have l1 := hy.l
  have l2 := hy.m
  have h4 : (y.msg.parcel.mail.flatMap fun l => y.msg.parcel.id :: l.args.map (refId V frm y.dst)).length ≤ 7 * y.msg.parcel.mail.length := flatMap_len fun z hz => by
    have := hy.a z hz
    rw [List.length_cons, List.length_map]
    omega
  unfold rrootsF
  split
  · rw [List.length_append, List.length_map, List.length_singleton]; omega
  · split
    · simp
    · split
      · omega
      · simp
theorem id_at2 {w : World} {A : Option Addr} {l : List IDE} (h : SlAt IDE.cells 2 w A l) : ∀ u [Later w u], SlAt IDE.cells 2 u A l := fun u i => h.below i.below
set_option maxRecDepth 200000 in
set_option maxHeartbeats 16000000 in
theorem refRoots_any (A : Option Addr) (c : Nat) (V : List ViewE) (w : World) (H : ViewsAt w A V) (hf : FewV V) :
    Calls Tryz.prog 31 #[.slice A V.length c] w (IdsPost (rootsV V) w) := by
  have hl := hf.l
  have HV := H.later
  have hl' : V.length ≤ 9223372036854775807 := by omega
  unfold IdsPost
  go_enter Tryz.func31, Tryz.ntmps31
  go_upto_region 2 with fail
  refine wp_name ?_
  intro w1 hw1
  have ho1 : Own IDE.cells 2 24 w.heap.size w1 (.slice (some ⟨w.heap.size, 0, none⟩) 0 0) ([] : List IDE) := Own.empty_blk (Nat.le_refl _) (by rw [← hw1]; exact heap_alloc_new _ _)
  have hb1 : Below w.heap.size w w1 := by rw [← hw1]; exact (by repeat (first | with_reducible exact Below.refl _ _ | (with_reducible refine Below.drew ?_) | (with_reducible refine below_drewN ?_ _) | (with_reducible refine Below.alloc ?_ ?_ _; rotate_left; (first | omega | (simp <;> omega))) | (with_reducible refine Below.setCell ?_ ?_ _; rotate_left; (first | omega | (simp <;> omega)))))
  clear hw1
  go_wp2_with fail
  go_loopw [3, 4] (fun ov iv wr => ∃ (i : Nat) (q : List IDE) (QA : Option Addr) (QC : Nat), i ≤ V.length ∧ iv = .int .i64 i ∧ ov = .slice QA q.length QC ∧ Hid (q = (V.take i).flatMap (rrootsW V)) ∧ Hid (q.length ≤ 216 * i) ∧ Own IDE.cells 2 24 w.heap.size wr (.slice QA q.length QC) q ∧ Below w.heap.size w wr) (fun _ iv _ => V.length - (intOf iv).toNat)
  case atStart => exact ⟨0, [], _, _, by omega, rfl, rfl, hide (by simp), hide (by simp), ho1, hb1⟩
  clear ho1 hb1
  case round =>
    obtain ⟨i, q, QA, QC, hi, rfl, rfl, hq, hqn, hoq, hbr⟩ := hrel
    have lrr : Later wr wr := Later.refl
    have lwr : Later w wr := ⟨hbr⟩
    by_cases hlt : i < V.length
    rotate_left
    · have hk' : i = V.length := by omega
      subst hk'
      rw [List.take_length] at hq
      have hql : q.length ≤ 1300 := by have := hqn.out; omega
      have HSet : ∀ u [Later wr u], Calls Tryz.prog 61 #[.slice QA q.length QC] u (SetIPost q u) := fun u j => set21_any QA QC q u ((hoq.below j.below).at_ IDE.enc).2.2 (by omega)
      have HMin : ∀ (A5 : Option Addr) (c5 : Nat) (q5 : List IDE) (g : Nat) (u : World), q5.length ≤ 2000 → SlAt IDE.cells 2 u A5 q5 → SlAt IDE.cells 2 u (some ⟨g, 0, none⟩) [zeroI] → Calls Tryz.prog 60 #[.slice A5 q5.length c5, .slice (some ⟨g, 0, none⟩) 1 1] u (MinP q5 [zeroI] u) := fun A5 c5 q5 g u h1 h2 h3 => minus21_any A5 c5 q5 (some ⟨g, 0, none⟩) 1 [zeroI] u h2 h3 (by omega) (by simp)
      go_wp2_with (first
        | (go_at_call 61; refine (HSet _).mono ?_; rintro r w5 ⟨q5, A5, c5, hq5, rfl, ho5, hb5⟩; have l5 := later hb5; have l55 : Later w5 w5 := Later.refl; have hq5l : q5.length ≤ 2000 := by (rw [hq5.out]; exact Nat.le_trans (setI_lenA _) (by omega)))
        | (go_at_call 60; refine (HMin A5 c5 q5 _ _ hq5l ((ho5.later _).at_ IDE.enc).2.2 (blk_slAt IDE.enc (fr := (0, 0)) (e := 24) (by exact (by (simp only [heap_drew, heap_alloc_if, World.size_alloc]); (repeat (first | rw [if_pos rfl] | rw [if_neg (by omega)] | rw [if_pos (by omega)])); try rfl)) [zeroI] rfl)).mono ?_; rintro r w7 ⟨q7, A7, c7, hq7, rfl, ho7, hb7⟩; have l7 := later hb7))
      go_ret
      exact ⟨q7, A7, c7, hide (by rw [hq7.out, hq5.out, hq.out]; exact rroots_eq V), rfl, ho7.mono (show Below w.heap.size w _ from below_of).size, below_of⟩
    obtain ⟨b, o, v, rfl, hv, hmem, LV, -, -, -, -⟩ := (HV wr).get hlt
    have hii : (i : Int) < (V.length : Int) := by omega
    have hvo := (H.v v hmem)
    have hT := hide (take_snoc_get hv)
    have hvf := hf.v v hmem
    have hvn := hvf.n
    have hvm := hvf.m
    have hva := hvf.a
    have hvl := hvf.f
    have hvg := hvf.g
    clear hv hvf
    go_upto_region 6 with fail
    refine wp_name ?_
    intro w3 hw3
    have bV : w3.heap[wr.heap.size]? = some (.cells v.arr 64 (0, 0)) := (by rw [← hw3]; simp only [heap_alloc_if, World.size_alloc]; repeat (first | rw [if_pos trivial] | rw [if_neg (by omega)] | rw [if_pos (by omega)]); try rfl)
    have hb3 : Below wr.heap.size wr w3 := by rw [← hw3]; exact (by repeat (first | with_reducible exact Below.refl _ _ | (with_reducible refine Below.drew ?_) | (with_reducible refine below_drewN ?_ _) | (with_reducible refine Below.alloc ?_ ?_ _; rotate_left; (first | omega | (simp <;> omega))) | (with_reducible refine Below.setCell ?_ ?_ _; rotate_left; (first | omega | (simp <;> omega)))))
    clear hw3
    have hbw3 : Below w.heap.size w w3 := hbr.trans (hb3.mono hbr.size)
    have ho3 := hoq.below hb3
    obtain ⟨g5, h5⟩ : ∃ z, z = wr.heap.size := ⟨_, rfl⟩
    rw [← h5] at bV ⊢
    clear h5 LV hoq hbr lrr lwr hb3
    obtain ⟨B, hB⟩ : ∃ z, z = (V.take i).flatMap (rrootsW V) := ⟨_, rfl⟩
    rw [← hB] at hq
    have HB := hide hB
    clear hB
    go_wp2_with fail
    go_loopw [3, 6] (fun ov kv w' => ∃ (k : Nat) (q : List IDE) (QA : Option Addr) (QC : Nat), k ≤ v.names.length ∧ kv = .int .i64 k ∧ ov = .slice QA q.length QC ∧ Hid (q = B ++ (v.names.take k).map NamedE.ref) ∧ Hid (q.length ≤ 216 * i + k) ∧ Own IDE.cells 2 24 w.heap.size w' (.slice QA q.length QC) q ∧ Below w.heap.size w w' ∧ w'.heap[g5]? = some (.cells v.arr 64 (0, 0))) (fun _ kv _ => v.names.length - (intOf kv).toNat)
    case atStart => exact ⟨0, q, QA, QC, by omega, rfl, rfl, hide (by rw [hq.out]; simp), hide (by have := hqn.out; omega), ho3, hbw3, bV⟩
    clear hq hqn ho3 hbw3 bV
    case round =>
      obtain ⟨k, q, QA, QC, hk, rfl, rfl, hq, hqn, hoq, hbr, bV⟩ := hrel
      have lrr : Later wr wr := Later.refl
      have lwr : Later w wr := ⟨hbr⟩
      have BV := boxed bV
      obtain ⟨-, -, -, x5, -, -, -, -⟩ := ViewE.box BV
      clear BV
      have hql : q.length ≤ 1300 := by have := hqn.out; omega
      by_cases hltk : k < v.names.length
      · obtain ⟨nb, no, n, hA, hn, NC⟩ := names_get (hvo.n.below hbr) hltk
        rw [hA] at x5
        have hki : (k : Int) < (v.names.length : Int) := by omega
        have hTk := hide (take_snoc_get hn)
        clear hn
        go_wp2_with (at_builtin; refine wpList_app1 rfl (.tmp 28) (.tmp 35) rfl IDE.enc idT n.ref rfl rfl rfl (hoq.later _) (by rfl) (by omega) (by unfold maxLen; omega) (Nat.le_trans hbr.size (show Below wr.heap.size wr _ from below_of).size) ?_; intro A9 c9 w9 ho9 hm9 hb9 hg9 hat9; have hb9w : Below w.heap.size w w9 := (show Below w.heap.size w _ from below_of).trans hb9; have b9 := box_keptG hoq hg9 bV (by decide))
        have hlk : (q ++ [n.ref]).length = q.length + 1 := by simp
        go_roundw
        case rel => exact ⟨k + 1, q ++ [n.ref], A9, c9, by omega, by go_num, by rw [hlk], hide (by rw [hTk.out, List.map_append, hq.out]; simp), hide (by rw [hlk]; have := hqn.out; omega), by rw [hlk]; exact ho9, hb9w, b9⟩
        case measure => simp [intOf]; omega
      · have hk' : k = v.names.length := by omega
        subst hk'
        rw [List.take_length] at hq
        go_wp2_with fail
        go_loopw [3, 7] (fun ov kv w' => ∃ (k : Nat) (q : List IDE) (QA : Option Addr) (QC : Nat), k ≤ v.mail.length ∧ kv = .int .i64 k ∧ ov = .slice QA q.length QC ∧ Hid (q = B ++ v.names.map NamedE.ref ++ (v.mail.take k).flatMap rootsM) ∧ Hid (q.length ≤ 216 * i + 6 + 7 * k) ∧ Own IDE.cells 2 24 w.heap.size w' (.slice QA q.length QC) q ∧ Below w.heap.size w w' ∧ w'.heap[g5]? = some (.cells v.arr 64 (0, 0))) (fun _ kv _ => v.mail.length - (intOf kv).toNat)
        case atStart => exact ⟨0, q, QA, QC, by omega, rfl, rfl, hide (by rw [hq.out]; simp), hide (by have := hqn.out; omega), hoq, hbr, bV⟩
        clear hq hqn hoq hbr bV x5 lrr lwr hql
        case round =>
          obtain ⟨k, q, QA, QC, hk, rfl, rfl, hq, hqn, hoq, hbr, bV⟩ := hrel
          have lrr : Later wr wr := Later.refl
          have lwr : Later w wr := ⟨hbr⟩
          have BV := boxed bV
          obtain ⟨-, -, -, -, x6, -, -, -⟩ := ViewE.box BV
          clear BV
          have hql : q.length ≤ 1300 := by have := hqn.out; omega
          by_cases hltk : k < v.mail.length
          · obtain ⟨mb, mo, m, hA, hm, hmm, MC⟩ := mails_get hvo.m hltk
            rw [hA] at x6
            have hki : (k : Int) < (v.mail.length : Int) := by omega
            have hTk := hide (take_snoc_get hm)
            have hmo := hvo.a m hmm
            have hma := hva m hmm
            clear hm
            go_wp2_with (at_builtin; refine wpList_app1 rfl (.tmp 44) (.tmp 51) rfl IDE.enc idT m.dst rfl rfl rfl (hoq.later _) (by rfl) (by omega) (by unfold maxLen; omega) (Nat.le_trans hbr.size (show Below wr.heap.size wr _ from below_of).size) ?_; intro A9 c9 w9 ho9 hm9 hb9 hg9 hat9; have hb9w : Below w.heap.size w w9 := (show Below w.heap.size w _ from below_of).trans hb9; have b9 := box_keptG hoq hg9 bV (by decide))
            have hlk : (q ++ [m.dst]).length = q.length + 1 := by simp
            obtain ⟨D, hD⟩ : ∃ z, z = q := ⟨_, rfl⟩
            rw [← hD] at hq
            have hq1 := hide (show q ++ [m.dst] = D ++ [m.dst] by rw [hD])
            clear hD
            have MC5 : ∀ u [Later w u], u.cell? ⟨mb, mo + k * 6 + 5, none⟩ = some (.slice m.A m.args.length m.c) := fun u i => (MC u).2.2.2.2.2
            clear MC x6 lrr lwr hoq hbr bV hat9 hg9 hb9
            go_loopw [3, 8] (fun ov nv w' => ∃ (n : Nat) (q : List IDE) (QA : Option Addr) (QC : Nat), n ≤ m.args.length ∧ nv = .int .i64 n ∧ ov = .slice QA q.length QC ∧ Hid (q = D ++ [m.dst] ++ ((m.args.take n).filter fun a => a.kind == 2).map ValE.ref) ∧ Hid (q.length ≤ 216 * i + 6 + 7 * k + 1 + n) ∧ Own IDE.cells 2 24 w.heap.size w' (.slice QA q.length QC) q ∧ Below w.heap.size w w' ∧ w'.heap[g5]? = some (.cells v.arr 64 (0, 0))) (fun _ nv _ => m.args.length - (intOf nv).toNat)
            case atStart => exact ⟨0, q ++ [m.dst], A9, c9, by omega, rfl, by rw [hlk], hide (by rw [hq1.out]; simp), hide (by rw [hlk]; have := hqn.out; omega), by rw [hlk]; exact ho9, hb9w, b9⟩
            clear hq1 hqn ho9 hb9w b9 hlk hql
            case round =>
              obtain ⟨n, q, QA, QC, hn, rfl, rfl, hqa, hqn, hoq, hbr, bV⟩ := hrel
              have lrr : Later wr wr := Later.refl
              have lwr : Later w wr := ⟨hbr⟩
              have BV := boxed bV
              obtain ⟨-, -, -, -, x6, -, -, -⟩ := ViewE.box BV
              clear BV
              rw [hA] at x6
              have hql : q.length ≤ 1300 := by have := hqn.out; omega
              by_cases hltn : n < m.args.length
              · obtain ⟨ab, ao, a, haA, ha, AC⟩ := ValE.get hmo hltn
                rw [haA] at MC5
                have hni : (n : Int) < (m.args.length : Int) := by omega
                have hTn := hide (take_snoc_get ha)
                clear ha
                by_cases h2 : a.kind = 2
                · have h2b := hide (show (a.kind == 2) = true by simp [h2])
                  go_wp2_with (at_builtin; refine wpList_app1 rfl (.tmp 75) (.tmp 86) rfl IDE.enc idT a.ref rfl rfl rfl (hoq.later _) (by rfl) (by omega) (by unfold maxLen; omega) (Nat.le_trans hbr.size (show Below wr.heap.size wr _ from below_of).size) ?_; intro A9 c9 w9 ho9 hm9 hb9 hg9 hat9; have hb9w : Below w.heap.size w w9 := (show Below w.heap.size w _ from below_of).trans hb9; have b9 := box_keptG hoq hg9 bV (by decide))
                  have hlk : (q ++ [a.ref]).length = q.length + 1 := by simp
                  go_roundw
                  case rel => exact ⟨n + 1, q ++ [a.ref], A9, c9, by omega, by go_num, by rw [hlk], hide (by rw [hTn.out, List.filter_append, List.map_append, hqa.out, List.filter_cons, h2b.out]; simp), hide (by rw [hlk]; have := hqn.out; omega), by rw [hlk]; exact ho9, hb9w, b9⟩
                  case measure => simp [intOf]; omega
                · have h2b := hide (show (a.kind == 2) = false by simp [h2])
                  go_wp2_with fail
                  go_roundw
                  case rel => exact ⟨n + 1, q, QA, QC, by omega, by go_num, rfl, hide (by rw [hTn.out, List.filter_append, List.map_append, hqa.out, List.filter_cons, h2b.out]; simp), hide (by have := hqn.out; omega), hoq, hbr, bV⟩
                  case measure => simp [intOf]; omega
              · have hn' : n = m.args.length := by omega
                subst hn'
                rw [List.take_length] at hqa
                go_wp2_with fail
                go_roundw
                case rel => exact ⟨k + 1, q, QA, QC, by omega, by go_num, rfl, hide (by rw [hTk.out, List.flatMap_append, hqa.out, hq.out]; simp [rootsM]), hide (by have := hqn.out; omega), hoq, hbr, bV⟩
                case measure => simp [intOf]; omega
          · have hk' : k = v.mail.length := by omega
            subst hk'
            rw [List.take_length] at hq
            go_wp2_with fail
            go_loopw [3, 9] (fun ov kv w' => ∃ (k : Nat) (q : List IDE) (QA : Option Addr) (QC : Nat), k ≤ v.flights.length ∧ kv = .int .i64 k ∧ ov = .slice QA q.length QC ∧ Hid (q = B ++ v.names.map NamedE.ref ++ v.mail.flatMap rootsM ++ (v.flights.take k).flatMap (rrootsY V v)) ∧ Hid (q.length ≤ 216 * i + 48 + 28 * k) ∧ Own IDE.cells 2 24 w.heap.size w' (.slice QA q.length QC) q ∧ Below w.heap.size w w' ∧ w'.heap[g5]? = some (.cells v.arr 64 (0, 0))) (fun _ kv _ => v.flights.length - (intOf kv).toNat)
            case atStart => exact ⟨0, q, QA, QC, by omega, rfl, rfl, hide (by rw [hq.out]; simp), hide (by have := hqn.out; omega), hoq, hbr, bV⟩
            clear hq hqn hoq hbr bV x6 lrr lwr hql
            case round =>
              obtain ⟨k, q, QA, QC, hk, rfl, rfl, hq, hqn, hoq, hbr, bV⟩ := hrel
              have lrr : Later wr wr := Later.refl
              have lwr : Later w wr := ⟨hbr⟩
              by_cases hltk : k < v.flights.length
              rotate_left
              · have hk' : k = v.flights.length := by omega
                subst hk'
                rw [List.take_length] at hq
                have BV := boxed bV
                obtain ⟨-, -, -, -, -, x9, -, -⟩ := ViewE.box BV
                clear BV
                go_wp2_with fail
                go_roundw
                case rel => exact ⟨i + 1, q, QA, QC, by omega, by go_num, rfl, hide (by rw [hT.out, List.flatMap_append, ← HB.out, hq.out]; simp [rrootsW]), hide (by have := hqn.out; omega), hoq, hbr⟩
                case measure => simp [intOf]; omega
              have BV := boxed bV
              obtain ⟨x0, -, -, -, -, x9, -, xR⟩ := ViewE.box BV
              clear BV
              have hql : q.length ≤ 1300 := by have := hqn.out; omega
              obtain ⟨fb, fo, y, hA, hy, hym, hyo, hR, LX, -, -, -⟩ := flights_get hvo.f hvo.g hltk
              rw [hA] at x9
              have hki : (k : Int) < (v.flights.length : Int) := by omega
              have hTk := hide (take_snoc_get hy)
              have hyf := hvg y hym
              clear hy
              have HFl : ∀ u [Later w u], Calls Tryz.prog 55 #[.slice (some ⟨b, o, none⟩) V.length c, v.v, y.v] u fun r w' => r = .returned (.bool (flyB V v y)) ∧ Below u.heap.size u w' := fun u j => refFlying_any (some ⟨b, o, none⟩) c V v y u (HV u) hf (hyo u)
              have HRt : ∀ u [Later w u], Calls Tryz.prog 59 #[.slice (some ⟨b, o, none⟩) V.length c, .int .i64 v.machine, y.v] u (IdsPost (rrootsF V v.machine y) u) := fun u j => refFlightRoots_any (some ⟨b, o, none⟩) c V v.machine y u (HV u) hf (hyo u) hyf
              unfold IdsPost at HRt
              have hrl := hide (rrootsF_len (V := V) (frm := v.machine) hyf)
              have hY := hide (show (v.flights.take (k + 1)).flatMap (rrootsY V v) = (v.flights.take k).flatMap (rrootsY V v) ++ (if flyB V v y then rrootsF V v.machine y else []) by rw [hTk.out, List.flatMap_append]; simp [rrootsY])
              obtain ⟨q3, hq3⟩ : ∃ q, flyB V v y = q := ⟨_, rfl⟩
              rw [hq3] at HFl hY
              clear hq3
              cases q3
              · go_upto_region 22 with fail
                (refine wp_region_after (by kernel_rfl) (by kernel_rfl) ?_
                 repeat (any_goals (first | go_big_quiet_skip | (go_big_quiet_want; go_big_quiet_op; first | go_big_quiet_on | go_big_quiet_call ((go_at_call 55; exact Calls.after (HFl _)))) | quiet_step ((go_at_call 55; exact Calls.after (HFl _))) | (refine wpQuiet_step (fun K hK => ?_); go_simp; split <;> (refine hK _ ?_; clear hK K))))
                 all_goals (refine wpQuiet_nil ?_; intro _ hw'; obtain ⟨u', hw''⟩ := hw'; subst hw''; obtain ⟨wd, hbd⟩ := u'; simp only [After.val_mk]))
                have ld := later hbd
                have hbrd : Below wr.heap.size wr wd := below_of
                have hwz : w.heap.size ≤ wr.heap.size := hbr.size
                go_wp2_with fail
                go_roundw
                case rel => exact ⟨k + 1, q, QA, QC, by omega, by go_num, rfl, hide (by rw [hY.out, hq.out]; simp), hide (by have := hqn.out; omega), hoq.below hbrd, hbr.trans (hbrd.mono hwz), blk_below bV hbrd⟩
                case measure => simp [intOf]; omega
              go_upto_region 22 with fail
              (refine wp_region_after (by kernel_rfl) (by kernel_rfl) ?_
               repeat (any_goals (first | go_big_quiet_skip | (go_big_quiet_want; go_big_quiet_op; first | go_big_quiet_on | go_big_quiet_call ((go_at_call 55; exact Calls.after (HFl _)))) | quiet_step ((go_at_call 55; exact Calls.after (HFl _))) | (refine wpQuiet_step (fun K hK => ?_); go_simp; split <;> (refine hK _ ?_; clear hK K))))
               all_goals (refine wpQuiet_nil ?_; intro _ hw'; obtain ⟨u', hw''⟩ := hw'; subst hw''; obtain ⟨wd, hbd⟩ := u'; simp only [After.val_mk]))
              have ld := later hbd
              have lrd : Later wr wd := ⟨below_of⟩
              have lwd : Later w wd := lwr.trans lrd
              have ldd : Later wd wd := Later.refl
              have hownd := hoq.below lrd.below
              have bVd := blk_below bV lrd.below
              have hzd : w.heap.size ≤ wd.heap.size := lwd.below.size
              have xc : ∀ u [Later wd u], u.cell? ⟨g5, 0, none⟩ = some (.int .i64 v.machine) ∧ u.cell? ⟨g5, 9, none⟩ = some (.slice (some ⟨fb, fo, none⟩) v.flights.length v.fc) := fun u i => by
                haveI := lrd.trans i
                exact ⟨x0 u, x9 u⟩
              clear x0 x9 xR
              go_upto_region 23 with fail
              go_region_held3 (fun w' => w'.cell? ⟨g5, 0, none⟩ = some (.int .i64 v.machine) ∧ w'.cell? ⟨g5, 9, none⟩ = some (.slice (some ⟨fb, fo, none⟩) v.flights.length v.fc) ∧ rowOf w' fb (fo + k * 41) 41 = some y.arr) ((refine ⟨?_, ?_, ?_⟩; (first | exact (xc _).1 | assumption); (first | exact (xc _).2 | assumption); (first | exact LX _ | assumption)))
                ((first
                  | (go_at_call 59
                     refine (HRt _).mono ?_
                     rintro r w6 ⟨q6, QA6, QC6, hq6, rfl, hoq6, hb6⟩
                     have l6 := later hb6
                     have ld6 : Later wd w6 := ⟨below_of⟩
                     have hq6l : q6.length ≤ 28 := by rw [hq6.out]; exact hrl.out)
                  | (refine step_app2 (P := Tryz.prog) rfl (.tmp 103) (.tmp 112) (by rfl) IDE.enc idT _ _ q6 q (.slice QA q.length QC) (by rfl) (by rfl) (m := q6.length) (n := q.length + q6.length) rfl rfl (hownd.later _) ((hoq6.later _).at_ IDE.enc).2.2 (by omega) (by unfold maxLen; omega) (Nat.le_trans hzd (show Below wd.heap.size wd _ from below_of).size) ?_
                     intro A9 c9 w9 ho9 hm9 hst9
                     have hownW := hownd.later
                     have hx9 := box_keptA (hownW _) hst9 (blk_below bVd (show Below wd.heap.size wd _ from below_of)) (by decide)
                     have hb9 : Below w.heap.size w w9 := below_stepA (hownW _) hst9 (show Below w.heap.size w _ from below_of) (show Below w.heap.size w _ from below_of).size
                     have l09 : Later w w9 := ⟨hb9⟩
                     have B9 := boxed hx9
                     have l99 : Later w9 w9 := Later.refl
                     have p0 := (ViewE.box B9).1 w9
                     have p1 := (ViewE.box B9).2.2.2.2.2.1 w9
                     rw [hA] at p1
                     have p2 := LX w9)
                  | fail))
              all_goals go_wp2_with fail
              all_goals go_roundw
              case rel => exact ⟨k + 1, q ++ q6, A9, c9, by omega, by go_num, by rw [List.length_append], hide (by rw [hY.out, hq.out, hq6.out]; simp), hide (by rw [List.length_append]; have := hqn.out; omega), by rw [List.length_append]; exact ho9, hb9, hx9⟩
              case measure => simp [intOf]; omega
end Go.Proofs.YtpkfenlfgdbkcaaGreatDoor

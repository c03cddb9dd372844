/-
  Small texts of this seat, put into one. Conditions stand in each theorem.
-/
import Derived.Test.YtjegncmkebbdfaaGreatDoorF16Mrg
import Derived.Test.YtjegncmkebbdfaaGreatDoorF16Open
set_option linter.unusedSimpArgs false
set_option linter.unusedVariables false
namespace Go.Proofs.YtjegncmkebbdfaaGreatDoor
open Go.RowKit
attribute [local go_sem ↓] run_eql_id run_neq_id
attribute [local go_sem] Oper.semAt_some
attribute [local simp] heap_drew
/-- What Put gives: the graph with one more node, or false. -/
def PutGPost (l : List NodeE) (n : NodeE) (w : World) (r : Ending) (w' : World) : Prop :=
  (∃ o OA OC, Hid (putN (conL l) n.con = some (conL o)) ∧ r = .returned (.tuple #[.agg #[.slice OA o.length OC], .bool true]) ∧ NodesAt w' OA o ∧ ((∀ x ∈ o, x ∈ l ∨ x = n) ∧ ∀ a : Addr, OA = some a → w.heap.size ≤ a.block) ∧ Below w.heap.size w w') ∨
  (∃ OA m OC, Hid (putN (conL l) n.con = none) ∧ r = .returned (.tuple #[.agg #[.slice OA m OC], .bool false]) ∧ Below w.heap.size w w')
theorem own_block {base : Nat} {w : World} {A : Option Addr} {m c : Nat} {l : List NodeE} (h : Own NodeE.cells 5 51 base w (.slice A m c) l) : ∀ a : Addr, A = some a → base ≤ a.block := fun a ha => by
  rcases h.form with ⟨h0, _⟩ | ⟨g, cap, hv, h3, _⟩
  · injection h0 with h0; rw [h0] at ha; cases ha
  · injection hv with hv
    rw [ha] at hv
    injection hv with hv
    rw [hv]
    exact h3
theorem ids_con {l : List NodeE} : ids (conL l) = l.map NodeE.id := by unfold ids conL; rw [List.map_map]; rfl
theorem posN_eq {l : List NodeE} {x : IDE} {k : Nat} (hk : k ≤ l.length) (h1 : ∀ (j : Nat) (y : NodeE), j < k → l[j]? = some y → ltI y.id x) (h2 : ∀ y, l[k]? = some y → ¬ ltI y.id x) : posN (conL l) x = k := by
  unfold posN
  rw [ids_con]
  refine cntI_eq (by rw [List.length_map]; exact hk) (fun j y hj hy => ?_) (fun y hy => ?_)
  · rw [List.getElem?_map] at hy
    obtain ⟨z, hz, rfl⟩ := Option.map_eq_some_iff.1 hy
    exact h1 j z hj hz
  · rw [List.getElem?_map] at hy
    obtain ⟨z, hz, rfl⟩ := Option.map_eq_some_iff.1 hy
    exact h2 z hz
theorem putN_ins {l : List NodeE} {n : NodeE} {k : Nat} (hp : posN (conL l) n.id = k) (h : ∀ y, l[k]? = some y → y.id ≠ n.id) : putN (conL l) n.con = some (conL (l.take k ++ [n] ++ l.drop k)) := by
  have hp' : posN (conL l) n.con.id = k := hp
  have e : conL (l.take k ++ [n] ++ l.drop k) = (conL l).take k ++ [n.con] ++ (conL l).drop k := by unfold conL; simp
  rw [e]
  unfold putN
  rw [hp']
  have hg : (conL l)[k]? = (l[k]?).map NodeE.con := by unfold conL; rw [List.getElem?_map]
  rw [hg]
  cases hy : l[k]? with
  | none => rfl
  | some y => exact if_neg (h y hy)
theorem putN_mrg {l : List NodeE} {n y : NodeE} {k : Nat} (hp : posN (conL l) n.id = k) (hy : l[k]? = some y) (h : y.id = n.id) : putN (conL l) n.con = (mergeN y.con n.con).map fun m => (conL l).set k m := by
  have hp' : posN (conL l) n.con.id = k := hp
  unfold putN
  rw [hp']
  have hg : (conL l)[k]? = some y.con := by unfold conL; rw [List.getElem?_map, hy]; rfl
  rw [hg]
  exact if_pos h
theorem putG_new {l : List NodeE} {n : NodeE} {k : Nat} {A A3 : Option Addr} {c3 : Nat} {w wz w3 : World} (Hp : Hid (putN (conL l) n.con = some (conL (l.take k ++ [n] ++ l.drop k)))) (hk : k ≤ l.length) (ho : Own NodeE.cells 5 51 wz.heap.size w3 (.slice A3 (l.length + 1) c3) (l.take k ++ [n] ++ l.drop k)) (hz : w.heap.size + 1 + 1 < wz.heap.size) (H : NodesAt w A l) (hn : SlAt ValE.cells 4 w n.A n.fields) (hnc : n.fields.length ≤ n.c ∧ n.c ≤ maxLen)
    (hb : Below w.heap.size w (w3.setCell ⟨w.heap.size + 1 + 1, 0, none⟩ (.slice A3 (l.length + 1) c3))) : PutGPost l n w (.returned (.tuple #[.agg #[.slice A3 (l.length + 1) c3], .bool true])) (w3.setCell ⟨w.heap.size + 1 + 1, 0, none⟩ (.slice A3 (l.length + 1) c3)) := by
  have hlen : (l.take k ++ [n] ++ l.drop k).length = l.length + 1 := by simp; omega
  have hmem : ∀ m ∈ l.take k ++ [n] ++ l.drop k, m ∈ l ∨ m = n := fun m hm => by
    rcases List.mem_append.1 hm with hm | hm
    · rcases List.mem_append.1 hm with hm | hm
      · exact .inl (List.mem_of_mem_take hm)
      · exact .inr (List.mem_singleton.1 hm)
    · exact .inl (List.mem_of_mem_drop hm)
  refine .inl ⟨_, A3, c3, Hp, by rw [hlen], ⟨?_, fun m hm => ?_, fun m hm => ?_⟩, ⟨hmem, fun a ha => by have := own_block ho a ha; omega⟩, hb⟩
  · exact ((ho.set (p := ⟨w.heap.size + 1 + 1, 0, none⟩) hz (.slice A3 (l.length + 1) c3)).at_ NodeE.enc).2.2
  · rcases hmem m hm with h | rfl
    · exact (H.f m h).below hb
    · exact hn.below hb
  · rcases hmem m hm with h | rfl
    · exact H.c m h
    · exact hnc
theorem own_node_set {base g n c k : Nat} {w : World} {l : List NodeE} {y m : NodeE} (h : Own NodeE.cells 5 51 base w (.slice (some ⟨g, 0, none⟩) n c) l) (hy : l[k]? = some y) :
    Own NodeE.cells 5 51 base (((((w.setCell ⟨g, k * 5, none⟩ (.int .i64 m.iDMachine)).setCell ⟨g, k * 5 + 1, none⟩ (.int .i64 m.iDSerial)).setCell ⟨g, k * 5 + 2, none⟩ (.int .i64 m.kind)).setCell ⟨g, k * 5 + 3, none⟩ (.int .i64 m.clas)).setCell ⟨g, k * 5 + 4, none⟩ (.slice m.A m.fields.length m.c)) (.slice (some ⟨g, 0, none⟩) n c) (l.set k m) := by
  have hk : k < l.length := (List.getElem?_eq_some_iff.1 hy).1
  have s0 := h.store NodeE.enc (j := 0) (x' := ⟨m.iDMachine, y.iDSerial, y.kind, y.clas, y.A, y.c, y.fields⟩) (u := .int .i64 m.iDMachine) hy (by decide) rfl
  have s1 := s0.store NodeE.enc (k := k) (j := 1) (x' := ⟨m.iDMachine, m.iDSerial, y.kind, y.clas, y.A, y.c, y.fields⟩) (u := .int .i64 m.iDSerial) (List.getElem?_set_self hk) (by decide) rfl
  rw [List.set_set] at s1
  have s2 := s1.store NodeE.enc (k := k) (j := 2) (x' := ⟨m.iDMachine, m.iDSerial, m.kind, y.clas, y.A, y.c, y.fields⟩) (u := .int .i64 m.kind) (List.getElem?_set_self hk) (by decide) rfl
  rw [List.set_set] at s2
  have s3 := s2.store NodeE.enc (k := k) (j := 3) (x' := ⟨m.iDMachine, m.iDSerial, m.kind, m.clas, y.A, y.c, y.fields⟩) (u := .int .i64 m.clas) (List.getElem?_set_self hk) (by decide) rfl
  rw [List.set_set] at s3
  have s4 := s3.store NodeE.enc (k := k) (j := 4) (x' := m) (u := .slice m.A m.fields.length m.c) (List.getElem?_set_self hk) (by decide) rfl
  rw [List.set_set] at s4
  exact s4
theorem putG_mrg {l : List NodeE} {n y m : NodeE} {k g7 o7 c7 B : Nat} {A : Option Addr} {w w10 : World} (Hp : Hid (putN (conL l) n.con = (mergeN y.con n.con).map fun m => (conL l).set k m)) (Ho : Hid (o7 = 0)) (hmo : m = y ∨ m = n) (hmz : Hid (∀ z, mergeN y.con n.con = some z → m.con = z)) (hym : y ∈ l)
    (Hown : Hid (Own NodeE.cells 5 51 B w10 (.slice (some ⟨g7, 0, none⟩) l.length c7) (l.set k m))) (hB : w.heap.size + 1 + 1 < B) (H : NodesAt w A l) (hn : SlAt ValE.cells 4 w n.A n.fields) (hnc : n.fields.length ≤ n.c ∧ n.c ≤ maxLen)
    (hb : Below w.heap.size w (w10.setCell ⟨w.heap.size + 1 + 1, 0, none⟩ (.slice (some ⟨g7, o7, none⟩) l.length c7))) : PutGPost l n w (.returned (.tuple #[.agg #[.slice (some ⟨g7, o7, none⟩) l.length c7], .bool (mergeN y.con n.con).isSome])) (w10.setCell ⟨w.heap.size + 1 + 1, 0, none⟩ (.slice (some ⟨g7, o7, none⟩) l.length c7)) := by
  cases hm : mergeN y.con n.con with
  | none => exact .inr ⟨_, l.length, c7, hide (by rw [Hp.out, hm]; rfl), rfl, hb⟩
  | some z =>
    have hz := hmz.out z hm
    have e : conL (l.set k m) = (conL l).set k z := by unfold conL; rw [List.map_set, hz]
    have hmem : ∀ x ∈ l.set k m, x ∈ l ∨ x = n := fun x hx => by
      rcases List.mem_or_eq_of_mem_set hx with h | rfl
      · exact .inl h
      · rcases hmo with rfl | rfl
        · exact .inl hym
        · exact .inr rfl
    refine .inl ⟨l.set k m, some ⟨g7, o7, none⟩, c7, hide (by rw [Hp.out, hm, e]; rfl), by rw [List.length_set]; rfl, ⟨?_, fun x hx => ?_, fun x hx => ?_⟩, ⟨hmem, fun a ha => by injection ha with ha; rw [← ha]; have := own_block Hown.out _ rfl; dsimp only at this ⊢; omega⟩, hb⟩
    · rw [Ho.out]
      exact ((Hown.out.set (p := ⟨w.heap.size + 1 + 1, 0, none⟩) hB _).at_ NodeE.enc).2.2
    · rcases hmem x hx with h | rfl
      · exact (H.f x h).below hb
      · exact hn.below hb
    · rcases hmem x hx with h | rfl
      · exact H.c x h
      · exact hnc
set_option maxRecDepth 100000 in
set_option maxHeartbeats 8000000 in
theorem putG_any (A : Option Addr) (c : Nat) (l : List NodeE) (n : NodeE) (w : World) (H : NodesAt w A l) (hn : SlAt ValE.cells 4 w n.A n.fields) (hnc : n.fields.length ≤ n.c ∧ n.c ≤ maxLen) (hl : l.length ≤ 10000) (hf : ∀ m ∈ l, m.fields.length ≤ 1000000000) (hnf : n.fields.length ≤ 1000000000) :
    Calls Tryz.prog 28 #[.agg #[.slice A l.length c], n.v] w (PutGPost l n w) := by
  have HL := H.later
  have hl' : l.length ≤ 9223372036854775807 := by omega
  go_enter Tryz.func28, Tryz.ntmps28
  go_upto_region 2 with fail
  refine wp_name ?_
  intro w0 hw0
  obtain ⟨B0, B1, B2, l0⟩ := box3 hw0
  clear hw0
  have l00 : Later w0 w0 := Later.refl
  go_loopw [6] (fun i wr => ∃ k : Nat, k ≤ l.length ∧ i = .int .i64 k ∧ Hid (∀ (j : Nat) (y : NodeE), j < k → l[j]? = some y → ltI y.id n.id) ∧ Below w0.heap.size w0 wr) (fun i _ => l.length - (intOf i).toNat)
  case atStart => exact ⟨0, by omega, rfl, hide fun j x h => absurd h (by omega), Below.refl _ _⟩
  case round =>
    obtain ⟨k, hk, rfl, Hlo, hbw⟩ := hrel
    have lr := later hbw
    have lrr : Later wr wr := Later.refl
    by_cases hlt : k < l.length
    · obtain ⟨g1, o1, y, rfl, hy, C1, F1, -, -⟩ := (HL wr).get hlt
      have Hy := hide hy
      have hki : (k : Int) < (l.length : Int) := by omega
      clear hy
      obtain ⟨cv, hcv⟩ : ∃ cv, cv = cmpI y.id n.id := ⟨_, rfl⟩
      have HC : ∀ u, Calls Tryz.prog 61 #[.agg #[.int .i64 y.iDMachine, .int .i64 y.iDSerial], .agg #[.int .i64 n.iDMachine, .int .i64 n.iDSerial]] u fun r w' => r = .returned (.int .i64 cv) ∧ Below u.heap.size u w' := fun u => by rw [hcv]; exact compare16_any y.id n.id u
      have Hcv := hide hcv
      clear hcv
      by_cases hlt2 : ltI y.id n.id
      · obtain rfl : cv = -1 := by rw [Hcv.out]; unfold cmpI; rw [if_neg (by intro e; rw [e] at hlt2; exact ltI_irrefl _ hlt2), if_pos hlt2]
        have Hn := hide hlt2
        clear hlt2
        go_upto_region 2 with fail
        (refine wp_region_after (by kernel_rfl) (by kernel_rfl) ?_
         repeat (any_goals (first | go_big_quiet_skip | (go_big_quiet_want; go_big_quiet_op; first | go_big_quiet_on | go_big_quiet_call ((go_at_call 61; exact Calls.after (HC _)))) | quiet_step ((go_at_call 61; exact Calls.after (HC _))) | (refine wpQuiet_step (fun K hK => ?_); go_simp; split <;> (refine hK _ ?_; clear hK K))))
         all_goals (refine wpQuiet_nil ?_; intro _ hw'; obtain ⟨u', hw''⟩ := hw'; subst hw''; obtain ⟨wd, hbd⟩ := u'; simp only [After.val_mk]))
        have ld := later hbd
        go_wp2_with fail
        go_roundw
        case rel => exact ⟨k + 1, by omega, by go_num, hide fun j z hj hz => by
          rcases Nat.lt_or_ge j k with h | h
          · exact Hlo.out j z h hz
          · have : j = k := by omega
            subst this
            rw [Hy.out] at hz; injection hz with hz; subst hz; exact Hn.out, hbw.trans (hbd.mono hbw.size)⟩
        case measure => simp [intOf]; omega
      · have Hk := hide (posN_eq (x := n.id) hk Hlo.out (fun z hz => by rw [Hy.out] at hz; injection hz with hz; subst hz; exact hlt2))
        have hcn : decide (cv < 0) = false := by
          have := Hcv.out
          unfold cmpI at this
          rw [if_neg hlt2] at this
          split at this <;> simp [this]
        clear hlt2 Hlo
        go_upto_region 2 with fail
        (refine wp_region_after (by kernel_rfl) (by kernel_rfl) ?_
         repeat (any_goals (first | go_big_quiet_skip | (go_big_quiet_want; go_big_quiet_op; first | go_big_quiet_on | go_big_quiet_call ((go_at_call 61; exact Calls.after (HC _)))) | quiet_step ((go_at_call 61; exact Calls.after (HC _))) | (refine wpQuiet_step (fun K hK => ?_); go_simp; split <;> (refine hK _ ?_; clear hK K))))
         all_goals (refine wpQuiet_nil ?_; intro _ hw'; obtain ⟨u', hw''⟩ := hw'; subst hw''; obtain ⟨wd, hbd⟩ := u'; simp only [After.val_mk]))
        have ld := later hbd
        have hbd0 : Below w0.heap.size w0 wd := hbw.trans (hbd.mono hbw.size)
        clear hbd
        have lwd : Later w wd := inferInstance
        go_upto_region 5 with (at_builtin; refine wpList_appE rfl (.tmp 29) (.tmp 31) rfl NodeE.enc nodeT _ _ l rfl rfl (HL _).s (by omega) (by unfold maxLen; omega) ?_; intro A7 c7 w7 ho7 hm7 hb7; have l7 := later hb7)
        have hbw7 : Below w.heap.size w w7 := below_of
        have hc7 : c7 ≤ maxLen := hm7
        have hc7l : l.length ≤ c7 := (ho7.at_ NodeE.enc).2.1
        have H7 : NodesAt w7 A7 l := ⟨(ho7.at_ NodeE.enc).2.2, fun m hm => (H.f m hm).below hbw7, H.c⟩
        have l77 : Later w7 w7 := Later.refl
        obtain ⟨g7, o7, y7, rfl, hy7, C7, -, -, -⟩ := (H7.later w7).get hlt
        obtain rfl : y = y7 := by rw [Hy.out] at hy7; injection hy7
        have HL7 : ∀ u [Later w7 u], SlAt NodeE.cells 5 u (some ⟨g7, o7, none⟩) l := fun u i => H7.s.below i.below
        have lk0 : (0 : Int) ≤ (k : Int) := by omega
        clear hy7
        cases hq : ideq y.iDMachine y.iDSerial n.iDMachine n.iDSerial
        · have hne : ∀ z, l[k]? = some z → z.id ≠ n.id := fun z hz e => by
            rw [Hy.out] at hz; injection hz with hz; subst hz
            have := @ideq_iff y.id n.id
            unfold NodeE.id at this e
            rw [hq, e] at this
            simp at this
          have Hp := hide (putN_ins Hk.out hne)
          clear hne Hk Hcv
          go_upto_region 5 with fail
          (refine wp_region_after (by kernel_rfl) (by kernel_rfl) ?_
           repeat (any_goals (first | go_big_quiet_skip | (go_big_quiet_want; go_big_quiet_op; first | go_big_quiet_on | go_big_quiet_call (fail)) | quiet_step (fail) | (refine wpQuiet_step (fun K hK => ?_); go_simp; split <;> (refine hK _ ?_; clear hK K))))
           all_goals (refine wpQuiet_nil ?_; intro _ hw'; obtain ⟨u', hw''⟩ := hw'; subst hw''; obtain ⟨wd, hbd⟩ := u'; simp only [After.val_mk]))
          have ld := later hbd
          go_upto_region 9 with fail
          refine wp_name ?_
          intro wz hwz
          have lz := later_name' hwz (inferInstance : Later w0 _)
          have lz7 := later_name' hwz (inferInstance : Later w7 _)
          have hsrc : ∀ u [Later w7 u], SlAt NodeE.cells 5 u (if c7 = k then some ⟨g7, o7, none⟩ else some ⟨g7, o7 + k * 5, none⟩) (l.drop k) := fun u i => by rw [if_neg (by omega)]; exact SlAt.drop (HL7 u) k
          have hzb : w.heap.size + 1 < wz.heap.size := Nat.lt_of_lt_of_le (blk_lt (B1 w0).1) (lz w0).below.size
          have hzb2 : w.heap.size + 1 + 1 < wz.heap.size := Nat.lt_of_lt_of_le (blk_lt (B2 w0).1) (lz w0).below.size
          have hk0 : (0 : Int) ≤ (k : Int) := by omega
          have hkc : (k : Int) ≤ (c7 : Int) := by omega
          have hkl : (k : Int) ≤ (l.length : Int) := by omega
          have q0 := blk_cell (B1 wz).1 0
          have q1 := blk_cell (B1 wz).1 1
          have q2 := blk_cell (B1 wz).1 2
          have q3 := blk_cell (B1 wz).1 3
          have q4 := blk_cell (B1 wz).1 4
          simp at q0 q1 q2 q3 q4
          clear hwz
          have htk : (l.take k).length = k := by rw [List.length_take]; omega
          have hdk : (l.drop k).length = l.length - k := by rw [List.length_drop]
          go_region_held3 (fun w' => w'.cell? ⟨w.heap.size + 1, 0, none⟩ = some (.int .i64 n.iDMachine) ∧ w'.cell? ⟨w.heap.size + 1, 1, none⟩ = some (.int .i64 n.iDSerial) ∧ w'.cell? ⟨w.heap.size + 1, 2, none⟩ = some (.int .i64 n.kind) ∧ w'.cell? ⟨w.heap.size + 1, 3, none⟩ = some (.int .i64 n.clas) ∧ w'.cell? ⟨w.heap.size + 1, 4, none⟩ = some (.slice n.A n.fields.length n.c)) (first | go_keep)
            ((first
              | (have ho9 := ho2
                 refine step_app (P := Tryz.prog) rfl (.tmp 70) (.tmp 73) (by rfl) NodeE.enc nodeT (if c7 = k then some ⟨g7, o7, none⟩ else some ⟨g7, o7 + k * 5, none⟩) (c7 - k) (l.drop k) (l.take k ++ [n]) (.slice A2 (k + 1) c2) (by rfl) (by rfl) (m := l.length - k) (n := l.length + 1) hdk (by simp only [List.length_append, htk, List.length_singleton] <;> omega) (ho2.later _) (hsrc _) (by omega) (by simp [maxLen]; omega) (by first | (simp; done) | (simp; omega) | omega) ?_
                 intro A3 c3 w3 ho3 hm3 hb3 hg3
                 have l3 := later_base (W := wz) hb3
                 have hz3 : wz.heap.size ≤ w3.heap.size := (l3 wz).below.size
                 have p0 := blk_cell (B1 w3).1 0
                 have p1 := blk_cell (B1 w3).1 1
                 have p2 := blk_cell (B1 w3).1 2
                 have p3 := blk_cell (B1 w3).1 3
                 have p4 := blk_cell (B1 w3).1 4
                 simp at p0 p1 p2 p3 p4)
              | (refine step_app rfl (.tmp 67) (.tmp 69) (by rfl) NodeE.enc nodeT _ _ [n] (l.take k) _ (by rfl) (by rfl) (m := 1) (n := k + 1) rfl (by rw [htk]) (ho1.later _) (blk_slAt NodeE.enc (fr := (0, 0)) (e := 51) (by first | (exact (by (simp only [heap_drew, heap_alloc_if, World.size_alloc]); (repeat (first | rw [if_pos rfl] | rw [if_neg (by omega)] | rw [if_pos (by omega)])); try rfl)) | (refine (hgh _ (by first | (simp; done) | (simp; omega) | omega) (by simp [Value.ownBlock] <;> omega)).trans (by (simp only [heap_drew, heap_alloc_if, World.size_alloc]); (repeat (first | rw [if_pos rfl] | rw [if_neg (by omega)] | rw [if_pos (by omega)])); try rfl))) [n] (by rfl)) (by omega) (by simp [maxLen]; omega) (by first | (simp; done) | (simp; omega) | omega) ?_
                 intro A2 c2 w2 ho2 hm2 hb2 hg2
                 have l2 := later_base (W := wz) hb2
                 have hz2 : wz.heap.size ≤ w2.heap.size := (l2 wz).below.size
                 have p0 := blk_cell (B1 w2).1 0
                 have p1 := blk_cell (B1 w2).1 1
                 have p2 := blk_cell (B1 w2).1 2
                 have p3 := blk_cell (B1 w2).1 3
                 have p4 := blk_cell (B1 w2).1 4
                 simp at p0 p1 p2 p3 p4)
              | (refine step_app rfl (.tmp 63) (.tmp 66) (by rfl) NodeE.enc nodeT _ _ (l.take k) ([] : List NodeE) (.slice (some ⟨_, 0, none⟩) 0 0) (by rfl) (by rfl) htk (Nat.zero_add _) (Own.empty_blk (base := wz.heap.size) (by first | (simp; done) | (simp; omega) | omega) (by (simp only [heap_drew, heap_alloc_if, World.size_alloc]); (repeat (first | rw [if_pos rfl] | rw [if_neg (by omega)] | rw [if_pos (by omega)])); try rfl)) ((HL7 _).take _) (by omega) (by simp [maxLen]; omega) (by first | (simp; done) | (simp; omega) | omega) ?_
                 intro A1 c1 w1 ho1 hm1 hb1 hg1
                 obtain ⟨-, -, -, -, hgh⟩ := hg1
                 have l1 := later_base (W := wz) hb1
                 have hz1 : wz.heap.size ≤ w1.heap.size := (l1 wz).below.size
                 have p0 := blk_cell (B1 w1).1 0
                 have p1 := blk_cell (B1 w1).1 1
                 have p2 := blk_cell (B1 w1).1 2
                 have p3 := blk_cell (B1 w1).1 3
                 have p4 := blk_cell (B1 w1).1 4
                 simp at p0 p1 p2 p3 p4)
              | fail))
          all_goals go_wp2_with fail
          all_goals
            have rb := blk_cell (blk_set (B2 w3).1 0 (.slice A3 (l.length + 1) c3)) 0
            simp at rb
            have hbf : Below w.heap.size w (w3.setCell ⟨w.heap.size + 1 + 1, 0, none⟩ (.slice A3 (l.length + 1) c3)) := (below_of (b := w) (w := w3)).setCell (p := ⟨w.heap.size + 1 + 1, 0, none⟩) (by simp; omega) _
            refine bodyPost_ret (v := .tuple #[.agg #[.slice A3 (l.length + 1) c3], .bool true]) (by simp [results, Tryz.results28, go_sem, rb]) rfl ?_
            exact putG_new Hp hk ho3 hzb2 H hn hnc hbf
        · have hid : y.id = n.id := by
            have := @ideq_iff y.id n.id
            unfold NodeE.id at this ⊢
            rw [hq] at this
            simpa using this.symm
          have Hp := hide (putN_mrg Hk.out Hy.out hid)
          have hym := List.mem_of_getElem? Hy.out
          have HMG : ∀ u [Later w7 u], Calls Tryz.prog 62 #[.agg #[.int .i64 y.iDMachine, .int .i64 y.iDSerial, .int .i64 y.kind, .int .i64 y.clas, .slice y.A y.fields.length y.c], .agg #[.int .i64 n.iDMachine, .int .i64 n.iDSerial, .int .i64 n.kind, .int .i64 n.clas, .slice n.A n.fields.length n.c]] u (MergePost y n u) := fun u i => merge16_any y n u ((H.f y hym).below (hbw7.trans (i.below.mono hbw7.size))) (hn.below (hbw7.trans (i.below.mono hbw7.size))) (hf y hym) hnf
          have hb1 : w.heap.size + 1 < w7.heap.size := blk_lt (B1 w7).1
          have hg7 : g7 < w7.heap.size := by
            rcases ho7.form with ⟨h0, _⟩ | ⟨g', cap, hv, _, h4, _⟩
            · cases h0
            · injection hv with hv
              injection hv with hv
              injection hv with hv
              omega
          have hgw : wd.heap.size ≤ g7 := by
            rcases ho7.form with ⟨h0, _⟩ | ⟨g', cap, hv, h3, _, _⟩
            · cases h0
            · injection hv with hv
              injection hv with hv
              injection hv with hv
              omega
          have hgw2 : w.heap.size + 1 + 1 < wd.heap.size := blk_lt (B2 wd).1
          have hgw3 : w.heap.size ≤ g7 := by omega
          have hgw4 : w.heap.size + 1 + 1 ≠ g7 := by omega
          have ho0 : o7 = 0 := by
            obtain ⟨g, hg⟩ := ho7.isSome (by intro e; rw [e] at hlt; simp at hlt)
            injection hg with hg
            injection hg
          have ho7z : Own NodeE.cells 5 51 wd.heap.size w7 (.slice (some ⟨g7, 0, none⟩) l.length c7) l := by rw [← ho0]; exact ho7
          have Ho0 := hide ho0
          obtain ⟨BD, hBD⟩ : ∃ b, b = wd.heap.size := ⟨_, rfl⟩
          rw [← hBD] at ho7z hgw hgw2
          clear hBD
          clear hid Hk Hcv ho0
          go_upto_region 5 with fail
          (refine wp_region_after (by kernel_rfl) (by kernel_rfl) ?_
           repeat (any_goals (first | go_big_quiet_skip | (go_big_quiet_want; go_big_quiet_op; first | go_big_quiet_on | go_big_quiet_call (fail)) | quiet_step (fail) | (refine wpQuiet_step (fun K hK => ?_); go_simp; split <;> (refine hK _ ?_; clear hK K))))
           all_goals (refine wpQuiet_nil ?_; intro _ hw'; obtain ⟨u', hw''⟩ := hw'; subst hw''; obtain ⟨wd, hbd⟩ := u'; simp only [After.val_mk]))
          have ld := later hbd
          have lwz : Later w7 wd := inferInstance
          go_upto_region 6 with fail
          refine wp_name ?_
          intro wz hwz
          have lz := later_name' hwz (inferInstance : Later w0 _)
          have lz7 := later_name' hwz (inferInstance : Later w7 _)
          have q0 := blk_cell (B1 wz).1 0
          have q1 := blk_cell (B1 wz).1 1
          have q2 := blk_cell (B1 wz).1 2
          have q3 := blk_cell (B1 wz).1 3
          have q4 := blk_cell (B1 wz).1 4
          simp at q0 q1 q2 q3 q4
          obtain ⟨r0, r1, r2, r3, r4⟩ := C7 wz
          have hzz : w7.heap.size ≤ wz.heap.size := (lz7 w7).below.size
          have hn1 : w.heap.size + 1 ≠ wz.heap.size := by omega
          have hn7 : g7 ≠ wz.heap.size := by omega
          have hn1' : wz.heap.size ≠ w.heap.size + 1 := by omega
          have hn7' : wz.heap.size ≠ g7 := by omega
          have hl0 : (0 : Int) ≤ (k : Int) := by omega
          clear hwz
          go_region_held3 (fun w' => w'.cell? ⟨w.heap.size + 1, 0, none⟩ = some (.int .i64 n.iDMachine) ∧ w'.cell? ⟨w.heap.size + 1, 1, none⟩ = some (.int .i64 n.iDSerial) ∧ w'.cell? ⟨w.heap.size + 1, 2, none⟩ = some (.int .i64 n.kind) ∧ w'.cell? ⟨w.heap.size + 1, 3, none⟩ = some (.int .i64 n.clas) ∧ w'.cell? ⟨w.heap.size + 1, 4, none⟩ = some (.slice n.A n.fields.length n.c) ∧ w'.cell? ⟨g7, o7 + k * 5, none⟩ = some (.int .i64 y.iDMachine) ∧ w'.cell? ⟨g7, o7 + k * 5 + 1, none⟩ = some (.int .i64 y.iDSerial) ∧ w'.cell? ⟨g7, o7 + k * 5 + 2, none⟩ = some (.int .i64 y.kind) ∧ w'.cell? ⟨g7, o7 + k * 5 + 3, none⟩ = some (.int .i64 y.clas) ∧ w'.cell? ⟨g7, o7 + k * 5 + 4, none⟩ = some (.slice y.A y.fields.length y.c)) (first | go_keep)
            ((first
              | (go_at_call 62
                 refine (HMG _).mono ?_
                 rintro r w8 ⟨m, hmo, hmz, rfl, hb8⟩
                 have l8 := later hb8
                 have p0 := blk_cell (B1 w8).1 0
                 have p1 := blk_cell (B1 w8).1 1
                 have p2 := blk_cell (B1 w8).1 2
                 have p3 := blk_cell (B1 w8).1 3
                 have p4 := blk_cell (B1 w8).1 4
                 simp at p0 p1 p2 p3 p4
                 obtain ⟨t0, t1, t2, t3, t4⟩ := C7 w8
                 have hz8 : w7.heap.size ≤ w8.heap.size := (inferInstance : Later w7 w8).below.size
                 have hm1 : w.heap.size + 1 ≠ w8.heap.size := by omega
                 have hm7 : g7 ≠ w8.heap.size := by omega
                 have hm1' : w8.heap.size ≠ w.heap.size + 1 := by omega
                 have hm7' : w8.heap.size ≠ g7 := by omega
                 first
                   | (have xb : w8.heap[wz.heap.size]? = some (.cells #[.int .i64 0, .int .i64 0, .int .i64 0, .int .i64 0, .slice none 0 0] 51 (0, 0)) := by
                        refine blk_below ?_ hb8
                        exact heap_alloc_new _ _
                      have XB := boxed xb)
                   | skip
                 have l88 : Later w8 w8 := Later.refl)
              | fail))
          · go_upto_region 7 with fail
            refine wp_name ?_
            intro w9 hw9
            have h9 : w9.heap[w8.heap.size]? = some (.cells m.arr 51 (0, 0)) := (by rw [← hw9]; simp only [heap_alloc_if, World.size_alloc]; repeat (first | rw [if_pos trivial] | rw [if_neg (by omega)] | rw [if_pos (by omega)]); try rfl)
            have hb9 : Below w7.heap.size w7 w9 := by rw [← hw9]; exact (below_of (b := w7) (w := w8)).trans (((by repeat (first | with_reducible exact Below.refl _ _ | (with_reducible refine Below.drew ?_) | (with_reducible refine below_drewN ?_ _) | (with_reducible refine Below.alloc ?_ ?_ _; rotate_left; (first | omega | (simp <;> omega))) | (with_reducible refine Below.setCell ?_ ?_ _; rotate_left; (first | omega | (simp <;> omega))))) : Below w8.heap.size w8 _).mono hz8)
            clear hw9
            have l9 : ∀ b [Later b w7], Later b w9 := fun b i => ⟨i.below.trans (hb9.mono i.below.size)⟩
            have l99 : Later w9 w9 := Later.refl
            have BX := boxed h9
            have FR : ∀ u [Later w7 u] (j : Nat), u.frozen? ⟨g7, j, none⟩ = false := fun u i j => (ho7z.below i.below).free j
            have e0 := FR w9 (o7 + k * 5)
            have e1 := FR w9 (o7 + k * 5 + 1)
            have e2 := FR w9 (o7 + k * 5 + 2)
            have e3 := FR w9 (o7 + k * 5 + 3)
            have e4 := FR w9 (o7 + k * 5 + 4)
            obtain ⟨s0, s1, s2, s3, s4⟩ := C7 w9
            have hb0 : Below w.heap.size w w9 := hbw7.trans (hb9.mono hbw7.size)
            have B29 := (B2 w9)
            clear q0 q1 q2 q3 q4 r0 r1 r2 r3 r4 p0 p1 p2 p3 p4 t0 t1 t2 t3 t4 HMG hn1 hn7 hn1' hn7' hm1 hm7 hm1' hm7' hzz hz8 FR C1 F1 hb1 hg7 HL7 HC
            go_upto_region 8 with fail
            refine wp_name ?_
            intro w10 hw10
            have ez : o7 + k * 5 = k * 5 := by rw [Ho0.out]; omega
            rw [ez] at hw10
            have own10 : Own NodeE.cells 5 51 BD w10 (.slice (some ⟨g7, 0, none⟩) l.length c7) (l.set k m) := by rw [← hw10]; exact own_node_set (ho7z.below hb9) Hy.out
            have hb10 : Below w.heap.size w w10 := by rw [← hw10]; exact (by repeat (first | with_reducible exact hb0 | with_reducible exact Below.refl _ _ | (with_reducible refine Below.drew ?_) | (with_reducible refine below_drewN ?_ _) | (with_reducible refine Below.alloc ?_ ?_ _; rotate_left; (first | omega | (simp <;> omega))) | (with_reducible refine Below.setCell ?_ ?_ _; rotate_left; (first | omega | (simp <;> omega)))))
            have hR10 : w10.heap[w.heap.size + 1 + 1]? = some (.cells #[.slice none 0 0] 27 (0, 0)) := by
              rw [← hw10, blk_far (by simp; omega), blk_far (by simp; omega), blk_far (by simp; omega), blk_far (by simp; omega), blk_far (by simp; omega)]
              exact B29.1
            clear hw10 ez e0 e1 e2 e3 e4 s0 s1 s2 s3 s4
            have l1010 : Later w10 w10 := Later.refl
            have BR := boxed hR10
            have Hown := hide own10
            clear own10
            go_wp2_with fail
            have rb := blk_cell (blk_set hR10 0 (.slice (some ⟨g7, o7, none⟩) l.length c7)) 0
            simp at rb
            have hbf : Below w.heap.size w (w10.setCell ⟨w.heap.size + 1 + 1, 0, none⟩ (.slice (some ⟨g7, o7, none⟩) l.length c7)) := hb10.setCell (p := ⟨w.heap.size + 1 + 1, 0, none⟩) (by simp; omega) _
            refine bodyPost_ret (v := .tuple #[.agg #[.slice (some ⟨g7, o7, none⟩) l.length c7], .bool (mergeN y.con n.con).isSome]) (by simp [results, Tryz.results28, go_sem, rb]) rfl ?_
            exact putG_mrg Hp Ho0 hmo hmz hym Hown hgw2 H hn hnc hbf
          · go_upto_region 7 with fail
            refine wp_name ?_
            intro w9 hw9
            have h9 : w9.heap[wz.heap.size]? = some (.cells m.arr 51 (0, 0)) := by
              have b5 := blk_set (blk_set (blk_set (blk_set (blk_set xb 0 (.int .i64 m.iDMachine)) 1 (.int .i64 m.iDSerial)) 2 (.int .i64 m.kind)) 3 (.int .i64 m.clas)) 4 (.slice m.A m.fields.length m.c)
              simp at b5
              rw [← hw9]
              exact b5
            have hbw8 : Below w7.heap.size w7 w8 := below_of
            have hb9 : Below w7.heap.size w7 w9 := by rw [← hw9]; exact (by repeat (first | with_reducible exact hbw8 | with_reducible exact Below.refl _ _ | (with_reducible refine Below.drew ?_) | (with_reducible refine below_drewN ?_ _) | (with_reducible refine Below.alloc ?_ ?_ _; rotate_left; (first | omega | (simp <;> omega))) | (with_reducible refine Below.setCell ?_ ?_ _; rotate_left; (first | omega | (simp <;> omega)))))
            clear hw9
            have l9 : ∀ b [Later b w7], Later b w9 := fun b i => ⟨i.below.trans (hb9.mono i.below.size)⟩
            have l99 : Later w9 w9 := Later.refl
            have BX := boxed h9
            have FR : ∀ u [Later w7 u] (j : Nat), u.frozen? ⟨g7, j, none⟩ = false := fun u i j => (ho7z.below i.below).free j
            have e0 := FR w9 (o7 + k * 5)
            have e1 := FR w9 (o7 + k * 5 + 1)
            have e2 := FR w9 (o7 + k * 5 + 2)
            have e3 := FR w9 (o7 + k * 5 + 3)
            have e4 := FR w9 (o7 + k * 5 + 4)
            obtain ⟨s0, s1, s2, s3, s4⟩ := C7 w9
            have hb0 : Below w.heap.size w w9 := hbw7.trans (hb9.mono hbw7.size)
            have B29 := (B2 w9)
            clear q0 q1 q2 q3 q4 r0 r1 r2 r3 r4 p0 p1 p2 p3 p4 t0 t1 t2 t3 t4 HMG hn1 hn7 hn1' hn7' hm1 hm7 hm1' hm7' hzz hz8 FR C1 F1 hb1 hg7 HL7 HC
            go_upto_region 8 with fail
            refine wp_name ?_
            intro w10 hw10
            have ez : o7 + k * 5 = k * 5 := by rw [Ho0.out]; omega
            rw [ez] at hw10
            have own10 : Own NodeE.cells 5 51 BD w10 (.slice (some ⟨g7, 0, none⟩) l.length c7) (l.set k m) := by rw [← hw10]; exact own_node_set (ho7z.below hb9) Hy.out
            have hb10 : Below w.heap.size w w10 := by rw [← hw10]; exact (by repeat (first | with_reducible exact hb0 | with_reducible exact Below.refl _ _ | (with_reducible refine Below.drew ?_) | (with_reducible refine below_drewN ?_ _) | (with_reducible refine Below.alloc ?_ ?_ _; rotate_left; (first | omega | (simp <;> omega))) | (with_reducible refine Below.setCell ?_ ?_ _; rotate_left; (first | omega | (simp <;> omega)))))
            have hR10 : w10.heap[w.heap.size + 1 + 1]? = some (.cells #[.slice none 0 0] 27 (0, 0)) := by
              rw [← hw10, blk_far (by simp; omega), blk_far (by simp; omega), blk_far (by simp; omega), blk_far (by simp; omega), blk_far (by simp; omega)]
              exact B29.1
            clear hw10 ez e0 e1 e2 e3 e4 s0 s1 s2 s3 s4
            have l1010 : Later w10 w10 := Later.refl
            have BR := boxed hR10
            have Hown := hide own10
            clear own10
            go_wp2_with fail
            have rb := blk_cell (blk_set hR10 0 (.slice (some ⟨g7, o7, none⟩) l.length c7)) 0
            simp at rb
            have hbf : Below w.heap.size w (w10.setCell ⟨w.heap.size + 1 + 1, 0, none⟩ (.slice (some ⟨g7, o7, none⟩) l.length c7)) := hb10.setCell (p := ⟨w.heap.size + 1 + 1, 0, none⟩) (by simp; omega) _
            refine bodyPost_ret (v := .tuple #[.agg #[.slice (some ⟨g7, o7, none⟩) l.length c7], .bool (mergeN y.con n.con).isSome]) (by simp [results, Tryz.results28, go_sem, rb]) rfl ?_
            exact putG_mrg Hp Ho0 hmo hmz hym Hown hgw2 H hn hnc hbf
    · have hk' : k = l.length := by omega
      subst hk'
      have Hk := hide (posN_eq (x := n.id) hk Hlo.out (fun z hz => by rw [List.getElem?_eq_none (by omega)] at hz; cases hz))
      have hki : ¬ ((l.length : Int) < (l.length : Int)) := by omega
      have hbd00 := hbw
      go_upto_region 2 with fail
      (refine wp_region_after (by kernel_rfl) (by kernel_rfl) ?_
       repeat (any_goals (first | go_big_quiet_skip | (go_big_quiet_want; go_big_quiet_op; first | go_big_quiet_on | go_big_quiet_call (fail)) | quiet_step (fail) | (refine wpQuiet_step (fun K hK => ?_); go_simp; split <;> (refine hK _ ?_; clear hK K))))
       all_goals (refine wpQuiet_nil ?_; intro _ hw'; obtain ⟨u', hw''⟩ := hw'; subst hw''; obtain ⟨wd, hbd⟩ := u'; simp only [After.val_mk]))
      have ld := later hbd
      have hbd0 : Below w0.heap.size w0 wd := hbw.trans (hbd.mono hbw.size)
      clear hbd
      have lwd : Later w wd := inferInstance
      have Hp := hide (putN_ins Hk.out (fun z hz => by rw [List.getElem?_eq_none (by omega)] at hz; cases hz))
      have hdr : l.drop l.length = [] := List.drop_length
      clear Hk Hlo
      go_upto_region 5 with (at_builtin; refine wpList_appE rfl (.tmp 29) (.tmp 31) rfl NodeE.enc nodeT _ _ l rfl rfl (HL _).s (by omega) (by unfold maxLen; omega) ?_; intro A7 c7 w7 ho7 hm7 hb7; have l7 := later hb7)
      have hbw7 : Below w.heap.size w w7 := below_of
      have hc7 : c7 ≤ maxLen := hm7
      have hc7l : l.length ≤ c7 := (ho7.at_ NodeE.enc).2.1
      have H7 : NodesAt w7 A7 l := ⟨(ho7.at_ NodeE.enc).2.2, fun m hm => (H.f m hm).below hbw7, H.c⟩
      have l77 : Later w7 w7 := Later.refl
      have HL7 : ∀ u [Later w7 u], SlAt NodeE.cells 5 u A7 l := fun u i => H7.s.below i.below
      clear H7 ho7
      rcases A7 with _ | ad
      all_goals
        go_upto_region 5 with fail
        (refine wp_region_after (by kernel_rfl) (by kernel_rfl) ?_
         repeat (any_goals (first | go_big_quiet_skip | (go_big_quiet_want; go_big_quiet_op; first | go_big_quiet_on | go_big_quiet_call (fail)) | quiet_step (fail) | (refine wpQuiet_step (fun K hK => ?_); go_simp; split <;> (refine hK _ ?_; clear hK K))))
         all_goals (refine wpQuiet_nil ?_; intro _ hw'; obtain ⟨u', hw''⟩ := hw'; subst hw''; obtain ⟨wd, hbd⟩ := u'; simp only [After.val_mk]))
        have ld := later hbd
        go_upto_region 9 with fail
        refine wp_name ?_
        intro wz hwz
        have lz := later_name' hwz (inferInstance : Later w0 _)
        have lz7 := later_name' hwz (inferInstance : Later w7 _)
        have hzb : w.heap.size + 1 < wz.heap.size := Nat.lt_of_lt_of_le (blk_lt (B1 w0).1) (lz w0).below.size
        have hzb2 : w.heap.size + 1 + 1 < wz.heap.size := Nat.lt_of_lt_of_le (blk_lt (B2 w0).1) (lz w0).below.size
        have hk0 : (0 : Int) ≤ (l.length : Int) := by omega
        have hkc : (l.length : Int) ≤ (c7 : Int) := by omega
        have hkl : (l.length : Int) ≤ (l.length : Int) := by omega
        have q0 := blk_cell (B1 wz).1 0
        have q1 := blk_cell (B1 wz).1 1
        have q2 := blk_cell (B1 wz).1 2
        have q3 := blk_cell (B1 wz).1 3
        have q4 := blk_cell (B1 wz).1 4
        simp at q0 q1 q2 q3 q4
        clear hwz
        have htk : (l.take l.length).length = l.length := by rw [List.length_take]; omega
        have hdk : (l.drop l.length).length = l.length - l.length := by rw [List.length_drop]
        go_region_held3 (fun w' => w'.cell? ⟨w.heap.size + 1, 0, none⟩ = some (.int .i64 n.iDMachine) ∧ w'.cell? ⟨w.heap.size + 1, 1, none⟩ = some (.int .i64 n.iDSerial) ∧ w'.cell? ⟨w.heap.size + 1, 2, none⟩ = some (.int .i64 n.kind) ∧ w'.cell? ⟨w.heap.size + 1, 3, none⟩ = some (.int .i64 n.clas) ∧ w'.cell? ⟨w.heap.size + 1, 4, none⟩ = some (.slice n.A n.fields.length n.c)) (first | go_keep)
          ((first
            | (have ho9 := ho2
               refine step_app (P := Tryz.prog) rfl (.tmp 70) (.tmp 73) (by rfl) NodeE.enc nodeT _ _ ([] : List NodeE) (l.take l.length ++ [n]) (.slice A2 (l.length + 1) c2) (by rfl) (by rfl) (m := 0) (n := l.length + 1) rfl (by simp only [List.length_append, htk, List.length_singleton] <;> omega) (ho2.later _) SlAt.nil (by omega) (by simp [maxLen]; omega) (by first | (simp; done) | (simp; omega) | omega) ?_
               intro A3 c3 w3 ho3 hm3 hb3 hg3
               have l3 := later_base (W := wz) hb3
               have hz3 : wz.heap.size ≤ w3.heap.size := (l3 wz).below.size
               have p0 := blk_cell (B1 w3).1 0
               have p1 := blk_cell (B1 w3).1 1
               have p2 := blk_cell (B1 w3).1 2
               have p3 := blk_cell (B1 w3).1 3
               have p4 := blk_cell (B1 w3).1 4
               simp at p0 p1 p2 p3 p4)
            | (refine step_app rfl (.tmp 67) (.tmp 69) (by rfl) NodeE.enc nodeT _ _ [n] (l.take l.length) _ (by rfl) (by rfl) (m := 1) (n := l.length + 1) rfl (by rw [htk]) (ho1.later _) (blk_slAt NodeE.enc (fr := (0, 0)) (e := 51) (by first | (exact (by (simp only [heap_drew, heap_alloc_if, World.size_alloc]); (repeat (first | rw [if_pos rfl] | rw [if_neg (by omega)] | rw [if_pos (by omega)])); try rfl)) | (refine (hgh _ (by first | (simp; done) | (simp; omega) | omega) (by simp [Value.ownBlock] <;> omega)).trans (by (simp only [heap_drew, heap_alloc_if, World.size_alloc]); (repeat (first | rw [if_pos rfl] | rw [if_neg (by omega)] | rw [if_pos (by omega)])); try rfl))) [n] (by rfl)) (by omega) (by simp [maxLen]; omega) (by first | (simp; done) | (simp; omega) | omega) ?_
               intro A2 c2 w2 ho2 hm2 hb2 hg2
               have l2 := later_base (W := wz) hb2
               have hz2 : wz.heap.size ≤ w2.heap.size := (l2 wz).below.size
               have p0 := blk_cell (B1 w2).1 0
               have p1 := blk_cell (B1 w2).1 1
               have p2 := blk_cell (B1 w2).1 2
               have p3 := blk_cell (B1 w2).1 3
               have p4 := blk_cell (B1 w2).1 4
               simp at p0 p1 p2 p3 p4)
            | (refine step_app rfl (.tmp 63) (.tmp 66) (by rfl) NodeE.enc nodeT _ _ (l.take l.length) ([] : List NodeE) (.slice (some ⟨_, 0, none⟩) 0 0) (by rfl) (by rfl) htk (Nat.zero_add _) (Own.empty_blk (base := wz.heap.size) (by first | (simp; done) | (simp; omega) | omega) (by (simp only [heap_drew, heap_alloc_if, World.size_alloc]); (repeat (first | rw [if_pos rfl] | rw [if_neg (by omega)] | rw [if_pos (by omega)])); try rfl)) ((HL7 _).take _) (by omega) (by simp [maxLen]; omega) (by first | (simp; done) | (simp; omega) | omega) ?_
               intro A1 c1 w1 ho1 hm1 hb1 hg1
               obtain ⟨-, -, -, -, hgh⟩ := hg1
               have l1 := later_base (W := wz) hb1
               have hz1 : wz.heap.size ≤ w1.heap.size := (l1 wz).below.size
               have p0 := blk_cell (B1 w1).1 0
               have p1 := blk_cell (B1 w1).1 1
               have p2 := blk_cell (B1 w1).1 2
               have p3 := blk_cell (B1 w1).1 3
               have p4 := blk_cell (B1 w1).1 4
               simp at p0 p1 p2 p3 p4)
            | fail))
        all_goals go_wp2_with fail
        all_goals
          have rb := blk_cell (blk_set (B2 w3).1 0 (.slice A3 (l.length + 1) c3)) 0
          simp at rb
          have hbf : Below w.heap.size w (w3.setCell ⟨w.heap.size + 1 + 1, 0, none⟩ (.slice A3 (l.length + 1) c3)) := (below_of (b := w) (w := w3)).setCell (p := ⟨w.heap.size + 1 + 1, 0, none⟩) (by simp; omega) _
          refine bodyPost_ret (v := .tuple #[.agg #[.slice A3 (l.length + 1) c3], .bool true]) (by simp [results, Tryz.results28, go_sem, rb]) rfl ?_
          exact putG_new Hp (Nat.le_refl _) (by rw [hdr]; exact ho3) hzb2 H hn hnc hbf
end Go.Proofs.YtjegncmkebbdfaaGreatDoor

namespace Go.Proofs.YtjegncmkebbdfaaGreatDoor
open Go.RowKit
attribute [local go_sem ↓] run_eql_id run_neq_id
attribute [local go_sem] Oper.semAt_some
attribute [local simp] heap_drew
theorem unionQ_bad {gs : List GrE} {w w' : World} {r : Ending} {e : Nat} (h : Hid (unionC (conGs gs) = ([], e))) (hr : r = .returned (.tuple #[.agg #[.slice none 0 0], .int .i64 (e : Nat)])) (hb : Below w.heap.size w w') : UnionQ (unionC (conGs gs)) w r w' :=
  ⟨[], none, 0, hide (by rw [h.out]; rfl), by rw [h.out, hr]; rfl, (OwnG.nil (base := 0)).nodes, by simp, hb⟩
theorem slAt_far {α : Type} {f : α → List Value} {s : Nat} {w : World} {A : Option Addr} {l : List α} (h : SlAt f s w A l) {p : Addr} {v : Value} (hne : ∀ a : Addr, A = some a → a.block ≠ p.block) : SlAt f s (w.setCell p v) A l := fun hl => by
  obtain ⟨b, off, e, hlt, hc⟩ := h hl
  refine ⟨b, off, e, by simpa using hlt, fun k x hx j u hu => ?_⟩
  have h1 := hc k x hx j u hu
  have h2 := hne _ e
  dsimp only at h2
  rw [World.cell?_setCell_far _ _ _ _ (fun e => h2 e.symm)]
  exact h1
/-- A list of nodes whose fields are as they came in. -/
structure Keeps (w u : World) (A : Option Addr) (o : List NodeE) : Prop where
  s : SlAt NodeE.cells 5 u A o
  f : ∀ x ∈ o, SlAt ValE.cells 4 w x.A x.fields ∧ x.fields.length ≤ x.c ∧ x.c ≤ maxLen
  b : ∀ a : Addr, A = some a → a.block ≠ w.heap.size
theorem Keeps.nodes {w u : World} {A : Option Addr} {o : List NodeE} (h : Keeps w u A o) (hb : Below w.heap.size w u) : NodesAt u A o := ⟨h.s, fun x hx => (h.f x hx).1.below hb, fun x hx => (h.f x hx).2⟩
theorem Keeps.below {w u u' : World} {A : Option Addr} {o : List NodeE} (h : Keeps w u A o) (hb : Below u.heap.size u u') : Keeps w u' A o := ⟨h.s.below hb, h.f, h.b⟩
theorem Keeps.nil {w u : World} : Keeps w u none [] := ⟨SlAt.nil, (fun x hx => by cases hx), (fun a ha => by cases ha)⟩
theorem unionO_bnd {gs : List GrE} {j k : Nat} {g : GrE} {o : List NodeE} (hg : gs[j]? = some g) (hk : k ≤ g.l.length) (ht : (conGs gs).flatten.length ≤ 10000) (hf : ∀ g ∈ gs, ∀ n ∈ g.l, n.fields.length ≤ 1000000) (hp : putAll [] ((conGs (gs.take j)).flatten ++ (conL g.l).take k) = some (conL o)) : o.length ≤ 10000 ∧ ∀ x ∈ o, x.fields.length ≤ 1000000 := by
  have hsub : ∃ rest, (conGs gs).flatten = ((conGs (gs.take j)).flatten ++ (conL g.l).take k) ++ rest := by
    refine ⟨(conL g.l).drop k ++ (conGs (gs.drop (j + 1))).flatten, ?_⟩
    have h1 : (conGs gs).flatten = (conGs (gs.take (j + 1))).flatten ++ (conGs (gs.drop (j + 1))).flatten := by
      unfold conGs
      rw [← List.flatten_append, ← List.map_append, List.take_append_drop]
    rw [h1, conGs_take hg]
    have h2 := List.take_append_drop k (conL g.l)
    conv => lhs; rw [← h2]
    simp only [List.append_assoc]
  obtain ⟨rest, hr⟩ := hsub
  have h1 := (putAll_sorted nil_sorted hp).2
  have h2 := congrArg List.length hr
  rw [List.length_append] at h2
  have h3 : (conL o).length = o.length := by unfold conL; rw [List.length_map]
  rw [h3, List.length_nil] at h1
  refine ⟨by omega, fun x hx => ?_⟩
  rcases putAll_mem hp (List.mem_map.2 ⟨x, hx, rfl⟩) with h | h
  · cases h
  · have h4 : x.con ∈ (conGs gs).flatten := by rw [hr]; exact List.mem_append_left _ h
    obtain ⟨L, hL, hxL⟩ := List.mem_flatten.1 h4
    obtain ⟨g', hg', rfl⟩ := List.mem_map.1 hL
    obtain ⟨y, hy, e⟩ := List.mem_map.1 hxL
    have h5 : y.con.fields = x.con.fields := congrArg NodeC.fields e
    have h6 : y.fields = x.fields := h5
    rw [← h6]
    exact hf g' hg' y hy
set_option maxRecDepth 100000 in
set_option maxHeartbeats 16000000 in
theorem unionR_any (A : Option Addr) (c : Nat) (gs : List GrE) (w : World) (H : GraphsAt w A gs) (hl : gs.length ≤ 1000000000) (ht : (conGs gs).flatten.length ≤ 10000) (hgl : ∀ g ∈ gs, g.l.length ≤ 1000000000) (hf : ∀ g ∈ gs, ∀ n ∈ g.l, n.fields.length ≤ 1000000) :
    Calls Tryz.prog 9 #[.slice A gs.length c] w (UnionQ (unionC (conGs gs)) w) := by
  have HG := H.later
  have hl' : gs.length ≤ 9223372036854775807 := by omega
  go_enter Tryz.func9, Tryz.ntmps9
  go_upto_region 1 with fail
  refine wp_name ?_
  intro w1 hw1
  have r1 : w1.heap[w.heap.size]? = some (.cells #[.slice none 0 0] 27 (0, 0)) := (by rw [← hw1]; simp only [heap_alloc_if, World.size_alloc]; repeat (first | rw [if_pos trivial] | rw [if_neg (by omega)] | rw [if_pos (by omega)]); try rfl)
  have hb1 : Below w.heap.size w w1 := by rw [← hw1]; exact (by repeat (first | with_reducible exact Below.refl _ _ | (with_reducible refine Below.drew ?_) | (with_reducible refine below_drewN ?_ _) | (with_reducible refine Below.alloc ?_ ?_ _; rotate_left; (first | omega | (simp <;> omega))) | (with_reducible refine Below.setCell ?_ ?_ _; rotate_left; (first | omega | (simp <;> omega)))))
  clear hw1
  have l1 := later hb1
  go_wp2_with fail
  go_loopw [4] (fun i wr => ∃ k : Nat, k ≤ gs.length ∧ i = .int .i64 k ∧ Hid (∀ g ∈ gs.take k, valid16B (conL g.l) = true) ∧ wr.heap[w.heap.size]? = some (.cells #[.slice none 0 0] 27 (0, 0)) ∧ Below w.heap.size w wr) (fun i _ => gs.length - (intOf i).toNat)
  case atStart => exact ⟨0, by omega, rfl, hide (by simp), r1, hb1⟩
  case round =>
    clear r1 hb1 l1
    obtain ⟨k, hk, rfl, hv, hR, hbr⟩ := hrel
    have lr := later hbr
    have lrr : Later wr wr := Later.refl
    by_cases hlt : k < gs.length
    · have hki : (k : Int) < (gs.length : Int) := by omega
      obtain ⟨b0, o0, g, rfl, hg, C1, N1⟩ := (HG wr).get hlt
      have hgm := List.mem_of_getElem? hg
      have HV : ∀ u [Later wr u], Calls Tryz.prog 27 #[.agg #[.slice g.A g.l.length g.c]] u fun r w' => r = .returned (.bool (valid16B (conL g.l))) ∧ Below u.heap.size u w' := fun u i => valid16_any g.A g.c g.l u (N1 u) (hgl g hgm) (fun n hn => by have := hf g hgm n hn; omega)
      have hT := hide (take_snoc_get hg)
      cases hva : valid16B (conL g.l) with
      | false =>
        have hbad : Hid (unionC (conGs gs) = ([], 1)) := hide (unionC_bad (List.mem_map.2 ⟨g, hgm, rfl⟩) hva)
        simp only [hva] at HV
        clear hg hva hgm
        go_upto_region 5 with (go_at_call 27; refine (HV _).mono ?_; rintro r w4 ⟨rfl, hb4⟩; have l4 := later hb4)
        have hb44 : Below wr.heap.size wr w4 := below_of
        have hRx := blk_below hR hb44
        have hbx : Below w.heap.size w w4 := below_of
        have BR := boxed hRx
        have l44 : Later w4 w4 := Later.refl
        go_wp2_with fail
        have rb := blk_cell (blk_set hRx 0 (.slice none 0 0)) 0
        simp at rb
        refine bodyPost_ret (v := .tuple #[.agg #[.slice none 0 0], .int .i64 1]) ?_ rfl ?_
        · simp [results, Tryz.results9, go_sem, rb]
        · exact unionQ_bad (e := 1) hbad rfl (hbx.setCell (p := ⟨w.heap.size, 0, none⟩) (by simp) _)
      | true =>
        have hv2 : Hid (∀ g ∈ gs.take (k + 1), valid16B (conL g.l) = true) := hide fun g' hg' => by
          rw [hT.out] at hg'
          rcases List.mem_append.1 hg' with h | h
          · exact hv.out g' h
          · rw [List.mem_singleton.1 h]; exact hva
        simp only [hva] at HV
        clear hg hva hgm
        go_wp2_with (go_at_call 27; refine (HV _).mono ?_; rintro r w4 ⟨rfl, hb4⟩; have l4 := later hb4)
        go_roundw
        case rel =>
          have hb44 : Below wr.heap.size wr w4 := below_of
          exact ⟨k + 1, by omega, by go_num, hv2, blk_below hR hb44, below_of⟩
        case measure => simp [intOf]; omega
    · have hk' : k = gs.length := by omega
      subst hk'
      rw [List.take_length] at hv
      obtain ⟨wE, rfl⟩ : ∃ z, z = wr := ⟨_, rfl⟩
      go_upto_region 7 with fail
      refine wp_name ?_
      intro w2 hw2
      have hO2 : w2.heap[wE.heap.size]? = some (.cells #[.slice none 0 0] 27 (0, 0)) := (by rw [← hw2]; simp only [heap_alloc_if, World.size_alloc]; repeat (first | rw [if_pos trivial] | rw [if_neg (by omega)] | rw [if_pos (by omega)]); try rfl)
      have hb2 : Below wE.heap.size wE w2 := by rw [← hw2]; exact (by repeat (first | with_reducible exact Below.refl _ _ | (with_reducible refine Below.drew ?_) | (with_reducible refine below_drewN ?_ _) | (with_reducible refine Below.alloc ?_ ?_ _; rotate_left; (first | omega | (simp <;> omega))) | (with_reducible refine Below.setCell ?_ ?_ _; rotate_left; (first | omega | (simp <;> omega)))))
      clear hw2
      have hR2 := blk_below hR hb2
      have hbw2 : Below w.heap.size w w2 := hbr.trans (hb2.mono hbr.size)
      have hRl := blk_lt hR
      obtain ⟨gO, hgO⟩ : ∃ g, g = wE.heap.size := ⟨_, rfl⟩
      rw [← hgO] at hO2 hRl ⊢
      have hOw : w.heap.size ≤ gO := by rw [hgO]; exact hbr.size
      have hOR : gO ≠ w.heap.size := by omega
      clear hR hbr lr lrr hgO hb2
      go_wp2_with fail
      go_loopw [6] (fun i wr => ∃ (j : Nat) (o : List NodeE) (OA : Option Addr) (OC : Nat), j ≤ gs.length ∧ i = .int .i64 j ∧ Hid (putAll [] (conGs (gs.take j)).flatten = some (conL o)) ∧ wr.heap[gO]? = some (.cells #[.slice OA o.length OC] 27 (0, 0)) ∧ Keeps w wr OA o ∧ wr.heap[w.heap.size]? = some (.cells #[.slice none 0 0] 27 (0, 0)) ∧ Below w.heap.size w wr) (fun i _ => gs.length - (intOf i).toNat)
      case atStart => exact ⟨0, [], none, 0, by omega, rfl, hide rfl, hO2, Keeps.nil, hR2, hbw2⟩
      case round =>
        clear hO2 hR2 hbw2
        obtain ⟨j, o0, OA0, OC0, hj, rfl, hI, hO, hN, hR, hbr⟩ := hrel
        have lr := later hbr
        have lrr : Later wr wr := Later.refl
        by_cases hlt : j < gs.length
        · have hji : (j : Int) < (gs.length : Int) := by omega
          obtain ⟨b0, p0, g, rfl, hg, C1, N1⟩ := H.get hlt
          obtain ⟨gA, gc, gl⟩ := g
          dsimp only at C1 N1
          have Hgm := hide (List.mem_of_getElem? hg)
          have Hg := hide hg
          have hgl' : gl.length ≤ 9223372036854775807 := by have : gl.length ≤ _ := hgl _ Hgm.out; omega
          have NW : ∀ u [Later w u], NodesAt u gA gl := (H.n _ Hgm.out).later
          have CG : ∀ u [Later w u], u.cell? ⟨b0, p0 + j, none⟩ = some (.slice gA gl.length gc) := C1
          have hI3 : Hid (putAll [] ((conGs (gs.take j)).flatten ++ (conL gl).take 0) = some (conL o0)) := hide (by simpa using hI.out)
          have Hlt := hide hlt
          clear hg hI C1 N1 hlt
          go_wp2_with fail
          go_loopw [7] (fun i wr => ∃ (k : Nat) (o : List NodeE) (OA : Option Addr) (OC : Nat), k ≤ gl.length ∧ i = .int .i64 k ∧ Hid (putAll [] ((conGs (gs.take j)).flatten ++ (conL gl).take k) = some (conL o)) ∧ wr.heap[gO]? = some (.cells #[.slice OA o.length OC] 27 (0, 0)) ∧ Keeps w wr OA o ∧ wr.heap[w.heap.size]? = some (.cells #[.slice none 0 0] 27 (0, 0)) ∧ Below w.heap.size w wr) (fun i _ => gl.length - (intOf i).toNat)
          case atStart => exact ⟨0, o0, OA0, OC0, by omega, rfl, hI3, hO, hN, hR, hbr⟩
          case round =>
            clear hO hN hR hbr hI3 lr lrr
            obtain ⟨k, o, OA, OC, hk, rfl, hI, hO, hN, hR, hbr⟩ := hrel
            have lr := later hbr
            have lrr : Later wr wr := Later.refl
            have lww : Later w w := Later.refl
            obtain ⟨hol, hof⟩ := unionO_bnd Hg.out hk ht hf hI.out
            by_cases hlt : k < gl.length
            · have hki : (k : Int) < (gl.length : Int) := by omega
              have hji2 : (j : Int) < (gs.length : Int) := by have := Hlt.out; omega
              obtain ⟨b1, p1, n, rfl, hn, CN, FN, hf1, hf2⟩ := (NW w).get hlt
              have hnm := List.mem_of_getElem? hn
              have hnf : n.fields.length ≤ _ := hf _ Hgm.out n hnm
              have hTk := hide (conL_take hn)
              have hSp := hide (flat_split Hg.out hn)
              have HP : ∀ u [Later wr u], Calls Tryz.prog 28 #[.agg #[.slice OA o.length OC], .agg #[.int .i64 n.iDMachine, .int .i64 n.iDSerial, .int .i64 n.kind, .int .i64 n.clas, .slice n.A n.fields.length n.c]] u (PutGPost o n u) := fun u i => putG_any OA OC o n u (by haveI := (lr w).trans i; exact (hN.below i.below).nodes (inferInstance : Later w u).below) (by haveI := (lr w).trans i; exact FN u) ⟨hf1, hf2⟩ (by omega) (fun m hm => by have := hof m hm; omega) (by omega)
              have hsn : putAll [] ((conGs (gs.take j)).flatten ++ (conL gl).take (k + 1)) = putN (conL o) n.con := by rw [hTk.out, ← List.append_assoc]; exact putAll_snoc hI.out
              clear hn hnm
              cases hp : putN (conL o) n.con with
              | none =>
                have hF : Hid (unionC (conGs gs) = ([], 9)) := hide (by
                  obtain ⟨rest, hr⟩ := hSp.out
                  refine unionC_none hv.out ?_
                  rw [hr, putAll_app, hI.out]
                  show putAll (conL o) (n.con :: rest) = none
                  unfold putAll
                  rw [hp])
                have HP2 : ∀ u [Later wr u], Calls Tryz.prog 28 #[.agg #[.slice OA o.length OC], .agg #[.int .i64 n.iDMachine, .int .i64 n.iDSerial, .int .i64 n.kind, .int .i64 n.clas, .slice n.A n.fields.length n.c]] u fun r w' => ∃ QA m QC, r = .returned (.tuple #[.agg #[.slice QA m QC], .bool false]) ∧ Below u.heap.size u w' := fun u i => (HP u).mono fun r w' h => by
                  rcases h with ⟨o', _, _, h1, _, _, _, _⟩ | ⟨QA, m, QC, _, h2, h3⟩
                  · have := h1.out; rw [hp] at this; cases this
                  · exact ⟨QA, m, QC, h2, h3⟩
                clear hp hsn HP hSp hI
                go_upto_region 13 with fail
                refine wp_name ?_
                intro w3 hw3
                have lr3 := later_name' hw3 (inferInstance : Later wr _)
                have hb3 : Below wr.heap.size wr w3 := (lr3 wr).below
                have hO3 := blk_below hO hb3
                have q0 := blk_cell hO3 0
                simp at q0
                have q1 := CG w3
                obtain ⟨r0, r1, r2, r3, r4⟩ := CN w3
                have y0 := World.new_ne w3 _ q0
                have y1 := World.new_ne w3 _ q1
                have y2 := World.new_ne w3 _ r0
                dsimp only at y0 y1 y2
                have l33 : Later w3 w3 := Later.refl
                have hRl3 : w.heap.size < w3.heap.size := blk_lt (blk_below hR hb3)
                have hOl3 : gO < w3.heap.size := blk_lt hO3
                clear hw3
                go_region_held3 (fun w' => w'.cell? ⟨gO, 0, none⟩ = some (.slice OA o.length OC) ∧ w'.cell? ⟨b0, p0 + j, none⟩ = some (.slice (some ⟨b1, p1, none⟩) gl.length gc) ∧ w'.cell? ⟨b1, p1 + k * 5, none⟩ = some (.int .i64 n.iDMachine) ∧ w'.cell? ⟨b1, p1 + k * 5 + 1, none⟩ = some (.int .i64 n.iDSerial) ∧ w'.cell? ⟨b1, p1 + k * 5 + 2, none⟩ = some (.int .i64 n.kind) ∧ w'.cell? ⟨b1, p1 + k * 5 + 3, none⟩ = some (.int .i64 n.clas) ∧ w'.cell? ⟨b1, p1 + k * 5 + 4, none⟩ = some (.slice n.A n.fields.length n.c)) (first | go_keep)
                  ((first
                    | (go_at_call 28
                       refine (HP2 _).mono ?_
                       rintro r w8 ⟨QA, m, QC, rfl, hb8⟩
                       have l8 := later hb8
                       have l38 : Later w3 w8 := inferInstance
                       have hO8 := blk_below hO3 l38.below
                       have hR8 := blk_below hR (inferInstance : Later wr w8).below
                       have hbw8 : Below w.heap.size w w8 := below_of
                       have hz8 : w3.heap.size ≤ w8.heap.size := l38.below.size
                       have z0 := blk_cell hO8 0
                       simp at z0
                       have z1 := CG w8
                       obtain ⟨t0, t1, t2, t3, t4⟩ := CN w8
                       have x0 := World.new_ne w8 _ z0
                       have x1 := World.new_ne w8 _ z1
                       have x2 := World.new_ne w8 _ t0
                       dsimp only at x0 x1 x2
                       first
                         | (have xb : w8.heap[w3.heap.size]? = some (.cells #[.slice none 0 0] 27 (0, 0)) := by
                              refine blk_below ?_ hb8
                              exact heap_alloc_new _ _
                            have XB := boxed xb)
                         | skip
                       have l88 : Later w8 w8 := Later.refl)
                    | fail))
                · go_upto_region 14 with fail
                  refine wp_name ?_
                  intro w9 hw9
                  have hb9 : Below w8.heap.size w8 w9 := by rw [← hw9]; exact (by repeat (first | with_reducible exact Below.refl _ _ | (with_reducible refine Below.drew ?_) | (with_reducible refine below_drewN ?_ _) | (with_reducible refine Below.alloc ?_ ?_ _; rotate_left; (first | omega | (simp <;> omega))) | (with_reducible refine Below.setCell ?_ ?_ _; rotate_left; (first | omega | (simp <;> omega)))))
                  clear hw9
                  have hRx := blk_below hR8 hb9
                  have hbx : Below w.heap.size w w9 := hbw8.trans (hb9.mono hbw8.size)
                  have BR := boxed hRx
                  have l99 : Later w9 w9 := Later.refl
                  go_wp2_with fail
                  have rb := blk_cell (blk_set hRx 0 (.slice none 0 0)) 0
                  simp at rb
                  refine bodyPost_ret (v := .tuple #[.agg #[.slice none 0 0], .int .i64 9]) ?_ rfl ?_
                  · simp [results, Tryz.results9, go_sem, rb]
                  · exact unionQ_bad (e := 9) hF rfl (hbx.setCell (p := ⟨w.heap.size, 0, none⟩) (by simp) _)
                · go_upto_region 14 with fail
                  refine wp_name ?_
                  intro w9 hw9
                  have hRx : w9.heap[w.heap.size]? = some (.cells #[.slice none 0 0] 27 (0, 0)) := by
                    rw [← hw9, blk_far (by simp; omega)]
                    exact hR8
                  have hbx : Below w.heap.size w w9 := by rw [← hw9]; exact (by repeat (first | with_reducible exact hbw8 | with_reducible exact Below.refl _ _ | (with_reducible refine Below.drew ?_) | (with_reducible refine below_drewN ?_ _) | (with_reducible refine Below.alloc ?_ ?_ _; rotate_left; (first | omega | (simp <;> omega))) | (with_reducible refine Below.setCell ?_ ?_ _; rotate_left; (first | omega | (simp <;> omega)))))
                  clear hw9
                  have BR := boxed hRx
                  have l99 : Later w9 w9 := Later.refl
                  go_wp2_with fail
                  have rb := blk_cell (blk_set hRx 0 (.slice none 0 0)) 0
                  simp at rb
                  refine bodyPost_ret (v := .tuple #[.agg #[.slice none 0 0], .int .i64 9]) ?_ rfl ?_
                  · simp [results, Tryz.results9, go_sem, rb]
                  · exact unionQ_bad (e := 9) hF rfl (hbx.setCell (p := ⟨w.heap.size, 0, none⟩) (by simp) _)
              | some q =>
                have HP2 : ∀ u [Later wr u], Calls Tryz.prog 28 #[.agg #[.slice OA o.length OC], .agg #[.int .i64 n.iDMachine, .int .i64 n.iDSerial, .int .i64 n.kind, .int .i64 n.clas, .slice n.A n.fields.length n.c]] u fun r w' => ∃ o' QA QC, Hid (conL o' = q) ∧ r = .returned (.tuple #[.agg #[.slice QA o'.length QC], .bool true]) ∧ Keeps w w' QA o' ∧ (∀ a : Addr, QA = some a → u.heap.size ≤ a.block) ∧ Below u.heap.size u w' := fun u i => (HP u).mono fun r w' h => by
                  rcases h with ⟨o', QA, QC, h1, h2, h3, ⟨h4, h6⟩, h7⟩ | ⟨_, _, _, h1, _⟩
                  · have h5 := h1.out
                    rw [hp] at h5
                    injection h5 with h5
                    exact ⟨o', QA, QC, hide h5.symm, h2, ⟨h3.s, fun x hx => by
                      rcases h4 x hx with h | rfl
                      · exact hN.f x h
                      · exact ⟨FN w, hf1, hf2⟩, fun a ha => by
                      have e1 := h6 a ha
                      have e2 := i.below.size
                      have e3 := blk_lt hR
                      omega⟩, h6, h7⟩
                  · have := h1.out; rw [hp] at this; cases this
                have hI2 : Hid (putAll [] ((conGs (gs.take j)).flatten ++ (conL gl).take (k + 1)) = some q) := hide (by rw [hsn, hp])
                clear hp hsn HP hSp hI
                go_upto_region 13 with fail
                refine wp_name ?_
                intro w3 hw3
                have lr3 := later_name' hw3 (inferInstance : Later wr _)
                have hb3 : Below wr.heap.size wr w3 := (lr3 wr).below
                have hO3 := blk_below hO hb3
                have q0 := blk_cell hO3 0
                simp at q0
                have q1 := CG w3
                obtain ⟨r0, r1, r2, r3, r4⟩ := CN w3
                have y0 := World.new_ne w3 _ q0
                have y1 := World.new_ne w3 _ q1
                have y2 := World.new_ne w3 _ r0
                dsimp only at y0 y1 y2
                have l33 : Later w3 w3 := Later.refl
                have hRl3 : w.heap.size < w3.heap.size := blk_lt (blk_below hR hb3)
                have hOl3 : gO < w3.heap.size := blk_lt hO3
                clear hw3
                go_region_held3 (fun w' => w'.cell? ⟨gO, 0, none⟩ = some (.slice OA o.length OC) ∧ w'.cell? ⟨b0, p0 + j, none⟩ = some (.slice (some ⟨b1, p1, none⟩) gl.length gc) ∧ w'.cell? ⟨b1, p1 + k * 5, none⟩ = some (.int .i64 n.iDMachine) ∧ w'.cell? ⟨b1, p1 + k * 5 + 1, none⟩ = some (.int .i64 n.iDSerial) ∧ w'.cell? ⟨b1, p1 + k * 5 + 2, none⟩ = some (.int .i64 n.kind) ∧ w'.cell? ⟨b1, p1 + k * 5 + 3, none⟩ = some (.int .i64 n.clas) ∧ w'.cell? ⟨b1, p1 + k * 5 + 4, none⟩ = some (.slice n.A n.fields.length n.c)) (first | go_keep)
                  ((first
                    | (go_at_call 28
                       refine (HP2 _).mono ?_
                       rintro r w8 ⟨o', QA, QC, hq', rfl, hK', hQ0, hb8⟩
                       have hQ : ∀ a : Addr, QA = some a → w3.heap.size ≤ a.block := fun a ha => by have := hQ0 a ha; simp at this; omega
                       have l8 := later hb8
                       have l38 : Later w3 w8 := inferInstance
                       have hO8 := blk_below hO3 l38.below
                       have hR8 := blk_below hR (inferInstance : Later wr w8).below
                       have hbw8 : Below w.heap.size w w8 := below_of
                       have hz8 : w3.heap.size ≤ w8.heap.size := l38.below.size
                       have z0 := blk_cell hO8 0
                       simp at z0
                       have z1 := CG w8
                       obtain ⟨t0, t1, t2, t3, t4⟩ := CN w8
                       have x0 := World.new_ne w8 _ z0
                       have x1 := World.new_ne w8 _ z1
                       have x2 := World.new_ne w8 _ t0
                       dsimp only at x0 x1 x2
                       first
                         | (have xb : w8.heap[w3.heap.size]? = some (.cells #[.slice none 0 0] 27 (0, 0)) := by
                              refine blk_below ?_ hb8
                              exact heap_alloc_new _ _
                            have XB := boxed xb)
                         | skip
                       have l88 : Later w8 w8 := Later.refl)
                    | fail))
                · go_upto_region 14 with fail
                  refine wp_name ?_
                  intro w9 hw9
                  have h9 : w9.heap[w8.heap.size]? = some (.cells #[.slice QA o'.length QC] 27 (0, 0)) := (by rw [← hw9]; simp only [heap_alloc_if, World.size_alloc]; repeat (first | rw [if_pos trivial] | rw [if_neg (by omega)] | rw [if_pos (by omega)]); try rfl)
                  have hb9 : Below w8.heap.size w8 w9 := by rw [← hw9]; exact (by repeat (first | with_reducible exact Below.refl _ _ | (with_reducible refine Below.drew ?_) | (with_reducible refine below_drewN ?_ _) | (with_reducible refine Below.alloc ?_ ?_ _; rotate_left; (first | omega | (simp <;> omega))) | (with_reducible refine Below.setCell ?_ ?_ _; rotate_left; (first | omega | (simp <;> omega)))))
                  clear hw9
                  have hR9 := blk_below hR8 hb9
                  have hO9 := blk_below hO8 hb9
                  have K9 := hK'.below hb9
                  have hbx : Below w.heap.size w w9 := hbw8.trans (hb9.mono hbw8.size)
                  have BX := boxed h9
                  have BO := boxed hO9
                  have l99 : Later w9 w9 := Later.refl
                  have hs := blk_set hO9 0 (.slice QA o'.length QC)
                  simp only [List.setIfInBounds_toArray, List.set_cons_zero] at hs
                  have hr := (blk_far (p := ⟨gO, 0, none⟩) hOR.symm (.slice QA o'.length QC)).trans hR9
                  have hk9 : Keeps w (w9.setCell ⟨gO, 0, none⟩ (.slice QA o'.length QC)) QA o' := ⟨slAt_far K9.s (fun a ha => by have := hQ a ha; dsimp only; omega), K9.f, K9.b⟩
                  have hbz := hbx.setCell (p := ⟨gO, 0, none⟩) hOw (.slice QA o'.length QC)
                  have hI3 := hide (show putAll [] ((conGs (gs.take j)).flatten ++ (conL gl).take (k + 1)) = some (conL o') by rw [hI2.out, hq'.out])
                  go_wp2_with fail
                  go_roundw
                  case rel => exact ⟨k + 1, o', QA, QC, by omega, by go_num, hI3, hs, hk9, hr, hbz⟩
                  case measure => simp [intOf]; omega
                · go_upto_region 14 with fail
                  refine wp_name ?_
                  intro w9 hw9
                  have hQ1 : ∀ a : Addr, QA = some a → w3.heap.size < a.block := fun a ha => by have := hQ0 a ha; simp at this; omega
                  have h9 : w9.heap[w3.heap.size]? = some (.cells #[.slice QA o'.length QC] 27 (0, 0)) := by
                    have b5 := blk_set xb 0 (.slice QA o'.length QC)
                    simp at b5
                    rw [← hw9]
                    exact b5
                  have hR9 : w9.heap[w.heap.size]? = some (.cells #[.slice none 0 0] 27 (0, 0)) := by
                    rw [← hw9, blk_far (by simp; omega)]
                    exact hR8
                  have hO9 : w9.heap[gO]? = some (.cells #[.slice OA o.length OC] 27 (0, 0)) := by
                    rw [← hw9, blk_far (by simp; omega)]
                    exact hO8
                  have K9 : Keeps w w9 QA o' := ⟨by rw [← hw9]; exact slAt_far hK'.s (fun a ha => by have := hQ1 a ha; dsimp only; omega), hK'.f, hK'.b⟩
                  have hbx : Below w.heap.size w w9 := by rw [← hw9]; exact (by repeat (first | with_reducible exact hbw8 | with_reducible exact Below.refl _ _ | (with_reducible refine Below.drew ?_) | (with_reducible refine below_drewN ?_ _) | (with_reducible refine Below.alloc ?_ ?_ _; rotate_left; (first | omega | (simp <;> omega))) | (with_reducible refine Below.setCell ?_ ?_ _; rotate_left; (first | omega | (simp <;> omega)))))
                  clear hw9
                  have BX := boxed h9
                  have BO := boxed hO9
                  have l99 : Later w9 w9 := Later.refl
                  have hs := blk_set hO9 0 (.slice QA o'.length QC)
                  simp only [List.setIfInBounds_toArray, List.set_cons_zero] at hs
                  have hr := (blk_far (p := ⟨gO, 0, none⟩) hOR.symm (.slice QA o'.length QC)).trans hR9
                  have hk9 : Keeps w (w9.setCell ⟨gO, 0, none⟩ (.slice QA o'.length QC)) QA o' := ⟨slAt_far K9.s (fun a ha => by have := hQ a ha; dsimp only; omega), K9.f, K9.b⟩
                  have hbz := hbx.setCell (p := ⟨gO, 0, none⟩) hOw (.slice QA o'.length QC)
                  have hI3 := hide (show putAll [] ((conGs (gs.take j)).flatten ++ (conL gl).take (k + 1)) = some (conL o') by rw [hI2.out, hq'.out])
                  go_wp2_with fail
                  go_roundw
                  case rel => exact ⟨k + 1, o', QA, QC, by omega, by go_num, hI3, hs, hk9, hr, hbz⟩
                  case measure => simp [intOf]; omega
            · have hk' : k = gl.length := by omega
              subst hk'
              have hI2 : Hid (putAll [] (conGs (gs.take (j + 1))).flatten = some (conL o)) := hide (by
                rw [conGs_take Hg.out]
                have h := hI.out
                have e : (conL gl).take gl.length = conL gl := List.take_of_length_le (by unfold conL; rw [List.length_map]; exact Nat.le_refl _)
                rw [e] at h
                exact h)
              have hjs := Hlt.out
              have hji2 : (j : Int) < (gs.length : Int) := by omega
              go_wp2_with fail
              go_roundw
              case rel => exact ⟨j + 1, o, OA, OC, by omega, by go_num, hI2, hO, hN, hR, hbr⟩
              case measure => simp [intOf]; omega
        · have hk' : j = gs.length := by omega
          subst hk'
          rw [List.take_length] at hI
          have hU := hide (unionC_some hv.out hI.out)
          obtain ⟨bl, bf⟩ := unionC_bnd (M := 1000000) ht (fun L hL x hx => by
            obtain ⟨y, hy, rfl⟩ := List.mem_map.1 hL
            obtain ⟨n, hn, rfl⟩ := List.mem_map.1 hx
            exact hf y hy n hn)
          rw [hU.out] at bl bf
          have hbd : o0.length ≤ 10000 ∧ ∀ n ∈ o0, n.fields.length ≤ 1000000 := ⟨by have : (conL o0).length ≤ 10000 := bl; unfold conL at this; rw [List.length_map] at this; exact this, fun n hn => bf n.con (List.mem_map.2 ⟨n, hn, rfl⟩)⟩
          have Hbd := hide hbd
          clear hI bl bf hbd
          have BO := boxed hO
          have BR := boxed hR
          go_wp2_with fail
          have rb := blk_cell (blk_set hR 0 (.slice OA0 o0.length OC0)) 0
          simp at rb
          refine bodyPost_ret (v := .tuple #[.agg #[.slice OA0 o0.length OC0], .int .i64 0]) ?_ rfl ?_
          · simp [results, Tryz.results9, go_sem, rb]
          · refine ⟨o0, OA0, OC0, hide (by rw [hU.out]), by rw [hU.out]; rfl, ?_, Hbd.out, hbr.setCell (p := ⟨w.heap.size, 0, none⟩) (by simp) _⟩
            have hbs := hbr.setCell (p := ⟨w.heap.size, 0, none⟩) (by simp) (.slice OA0 o0.length OC0)
            exact Keeps.nodes (w := w) ⟨slAt_far hN.s hN.b, hN.f, hN.b⟩ hbs
end Go.Proofs.YtjegncmkebbdfaaGreatDoor

namespace Go.Proofs.YtjegncmkebbdfaaGreatDoor
open Go.RowKit
attribute [local go_sem] Oper.semAt_some
attribute [local simp] heap_drew
theorem tot_len : ∀ gs : List GrE, (conGs gs).flatten.length ≤ totG gs
  | [] => Nat.zero_le _
  | g :: gs => by
    have ih := tot_len gs
    have h1 : (conL g.l).length = g.l.length := by unfold conL; rw [List.length_map]
    have h2 := cntG_len g.l
    unfold conGs totG at ih ⊢
    rw [List.map_cons, List.flatten_cons, List.length_append, List.map_cons, List.sum_cons, h1]
    omega
theorem unionSQ_any (A : Option Addr) (c : Nat) (gs : List GrE) (w : World) (H : GraphsAt w A gs) (hl : gs.length ≤ 1000000000) (ht : (conGs gs).flatten.length ≤ 10000) (hb : ∀ x ∈ gs, x.l.length ≤ 10000 ∧ ∀ n ∈ x.l, n.fields.length ≤ 1000000) :
    Calls Tryz.prog 8 #[.slice A gs.length c] w (UnionQ (unionC (conGs gs)) w) := by
  refine (unionS_any A c gs w H hl ht (fun x hx => by have := (hb x hx).1; omega) (fun x hx => (hb x hx).2)).mono ?_
  rintro r w' ⟨o, OA, OC, ho, hr, hg, hb'⟩
  obtain ⟨b1, b2⟩ := unionC_bnd (M := 1000000) ht (fun L hL x hx => by
    obtain ⟨y, hy, rfl⟩ := List.mem_map.1 hL
    obtain ⟨n, hn, rfl⟩ := List.mem_map.1 hx
    exact (hb y hy).2 n hn)
  rw [← ho.out] at b1 b2
  exact ⟨o, OA, OC, ho, hr, hg.nodes, ⟨by unfold conL at b1; rw [List.length_map] at b1; exact b1, fun n hn => b2 n.con (List.mem_map.2 ⟨n, hn, rfl⟩)⟩, hb'⟩
set_option maxRecDepth 100000 in
set_option maxHeartbeats 16000000 in
theorem lawUnites_any (A : Option Addr) (c : Nat) (gs : List GrE) (w : World) (h : Tab10 w) (H : GraphsAt w A gs) (hl : gs.length ≤ 1000000000) (ht : totG gs ≤ 1000000000) :
    Calls Tryz.prog 3 #[.slice A gs.length c] w fun r w' => r = .returned (.bool true) ∧ Below w.heap.size w w' := by
  have HG := H.later
  have HT := h.later
  have lww : Later w w := Later.refl
  have HA : ∀ u [Later w u], Calls Tryz.prog 7 #[] u fun r w' => r = .returned (.bool true) ∧ Below u.heap.size u w' := fun u i => awake_any u (HT u)
  have HF : ∀ u [Later w u], Calls Tryz.prog 6 #[.slice A gs.length c] u fun r w' => r = .returned (.bool (decide (totG gs ≤ 200))) ∧ Below u.heap.size u w' := fun u i => few_any A c gs u (HG u) hl ht
  cases hfw : decide (totG gs ≤ 200) with
  | false =>
    simp only [hfw] at HF
    clear hfw
    go_enter Tryz.func3, Tryz.ntmps3
    go_wp2_with (first | (go_at_call 6; refine (HF _).mono ?_; rintro r w2 ⟨rfl, hb2⟩; have l2 := later hb2) | (go_at_call 7; refine (HA _).mono ?_; rintro r w3 ⟨rfl, hb3⟩; have l3 := later hb3))
    go_ret
    exact ⟨rfl, below_of⟩
  | true =>
    simp only [hfw] at HF
    have htt := of_decide_eq_true hfw
    clear hfw
    have hlen := tot_len gs
    have hbs : ∀ x ∈ gs, x.l.length ≤ 200 ∧ ∀ n ∈ x.l, n.fields.length ≤ 200 := fun x hx => cnt_bounds (by have := totG_mem hx; omega)
    by_cases h5 : gs.length > 5
    · have h5' : (5 : Int) < (gs.length : Int) := by omega
      go_enter Tryz.func3, Tryz.ntmps3
      go_wp2_with (first | (go_at_call 6; refine (HF _).mono ?_; rintro r w2 ⟨rfl, hb2⟩; have l2 := later hb2) | (go_at_call 7; refine (HA _).mono ?_; rintro r w3 ⟨rfl, hb3⟩; have l3 := later hb3))
      go_ret
      exact ⟨rfl, below_of⟩
    · have h5' : ¬ (5 : Int) < (gs.length : Int) := by omega
      have U1 : ∀ u [Later w u], Calls Tryz.prog 8 #[.slice A gs.length c] u (UnionQ (unionC (conGs gs)) u) := fun u i => unionSQ_any A c gs u (HG u) hl (by omega) (fun x hx => ⟨by have := (hbs x hx).1; omega, fun n hn => by have := (hbs x hx).2 n hn; omega⟩)
      have U2 : ∀ u [Later w u], Calls Tryz.prog 9 #[.slice A gs.length c] u (UnionQ (unionC (conGs gs)) u) := fun u i => unionR_any A c gs u (HG u) hl (by omega) (fun x hx => by have := (hbs x hx).1; omega) (fun x hx n hn => by have := (hbs x hx).2 n hn; omega)
      have EQ : ∀ (x y : List NodeE) (XA : Option Addr) (XC : Nat) (YA : Option Addr) (YC : Nat) (u : World), NodesAt u XA x → NodesAt u YA y → (x.length ≤ 10000 ∧ ∀ n ∈ x, n.fields.length ≤ 1000000) → (y.length ≤ 10000 ∧ ∀ n ∈ y, n.fields.length ≤ 1000000) → Hid (conL x = conL y) → Calls Tryz.prog 10 #[.agg #[.slice XA x.length XC], .agg #[.slice YA y.length YC]] u fun r w' => r = .returned (.bool true) ∧ Below u.heap.size u w' := fun x y XA XC YA YC u hx hy bx b' hh => by
        have := equal16_any XA XC x YA YC y u hx hy (by omega) (by omega) (fun n hn => by have := bx.2 n hn; omega) (fun n hn => by have := b'.2 n hn; omega)
        rw [decide_eq_true hh.out] at this
        exact this
      generalize unionC (conGs gs) = P at U1 U2
      obtain ⟨L, e⟩ := P
      have hee : ((e : Int) == (e : Int)) = true := by simp
      clear hbs hlen
      go_enter Tryz.func3, Tryz.ntmps3
      go_upto_region 3 with (go_at_call 6; refine (HF _).mono ?_; rintro r w2 ⟨rfl, hb2⟩; have l2 := later hb2)
      go_upto_region 4 with (go_at_call 8; refine (U1 _).mono ?_; rintro r w3 ⟨x, XA, XC, hx, rfl, NX, bx, hb3⟩; have l3 := later hb3)
      refine wp_name ?_
      intro w4 hw4
      have h5 : w4.heap[w3.heap.size]? = some (.cells #[.slice XA x.length XC] 27 (0, 0)) := (by rw [← hw4]; simp only [heap_alloc_if, World.size_alloc]; repeat (first | rw [if_pos trivial] | rw [if_neg (by omega)] | rw [if_pos (by omega)]); try rfl)
      have hb4 : Below w3.heap.size w3 w4 := by rw [← hw4]; exact (by repeat (first | with_reducible exact Below.refl _ _ | (with_reducible refine Below.drew ?_) | (with_reducible refine below_drewN ?_ _) | (with_reducible refine Below.alloc ?_ ?_ _; rotate_left; (first | omega | (simp <;> omega))) | (with_reducible refine Below.setCell ?_ ?_ _; rotate_left; (first | omega | (simp <;> omega)))))
      clear hw4
      have l4 := later hb4
      have l44 : Later w4 w4 := Later.refl
      have X5 := boxed h5
      have NX4 : ∀ u [Later w4 u], NodesAt u XA x := fun u i => NX.below (hb4.trans (i.below.mono hb4.size))
      clear h5 NX U1
      go_upto_region 5 with (go_at_call 9; refine (U2 _).mono ?_; rintro r w5 ⟨y, YA, YC, hy, rfl, NY, by5, hb5⟩; have l5 := later hb5)
      refine wp_name ?_
      intro w6 hw6
      have h7 : w6.heap[w5.heap.size]? = some (.cells #[.slice YA y.length YC] 27 (0, 0)) := (by rw [← hw6]; simp only [heap_alloc_if, World.size_alloc]; repeat (first | rw [if_pos trivial] | rw [if_neg (by omega)] | rw [if_pos (by omega)]); try rfl)
      have hb6 : Below w5.heap.size w5 w6 := by rw [← hw6]; exact (by repeat (first | with_reducible exact Below.refl _ _ | (with_reducible refine Below.drew ?_) | (with_reducible refine below_drewN ?_ _) | (with_reducible refine Below.alloc ?_ ?_ _; rotate_left; (first | omega | (simp <;> omega))) | (with_reducible refine Below.setCell ?_ ?_ _; rotate_left; (first | omega | (simp <;> omega)))))
      clear hw6
      have l6 := later hb6
      have l66 : Later w6 w6 := Later.refl
      have X7 := boxed h7
      have NY6 : ∀ u [Later w6 u], NodesAt u YA y := fun u i => NY.below (hb6.trans (i.below.mono hb6.size))
      have hxy : Hid (conL x = conL y) := hide (hx.out.trans hy.out.symm)
      clear h7 NY U2 hx hy
      go_wp2_with (first | (go_at_call 10; refine (EQ x y XA XC YA YC _ (NX4 _) (NY6 _) bx by5 hxy).mono ?_; rintro r w7 ⟨rfl, hb7⟩; have l7 := later hb7) | (go_at_call 7; refine (HA _).mono ?_; rintro r w8 ⟨rfl, hb8⟩; have l8 := later hb8))
      go_ret
      exact ⟨rfl, below_of⟩
end Go.Proofs.YtjegncmkebbdfaaGreatDoor

namespace Go.Proofs.YtjegncmkebbdfaaGreatDoor
open Go.RowKit Go.WideShapes Go.ChangeShapes
theorem cellsOf_22 : Tryz.prog.cellsOf 22 = 1 := by kernel_rfl
theorem GrE.cells_length (g : GrE) : g.cells.length = 1 := rfl
instance inhGrE : Inhabited GrE := ⟨⟨none, 0, []⟩⟩
theorem GrE.opensU : OpensU Tryz.prog 27 GrE.cells (fun w x => NodesAt w x.A x.l) (fun x => cntG x.l + 1) := fun H enc w fuel cs x h hw => by
  have hlen := struct_len Tryz.underlying27 h
  rw [cellsOf_27] at hlen
  obtain ⟨a0, e0, ⟨g0, b0, l0, m0, n0⟩, u0⟩ := field_opensU Tryz.underlying27 h hw 0 _ rfl 0 1 rfl cellsOf_25 (opensU_slice Tryz.underlying25 cellsOf_51 (by kernel_rfl : Tryz.prog.bytesOf 51 = 56) NodeE.opensU (by decide) NodeE.cells_length)
  have hb := bulk_fields x.1 1
  simp only [show List.range 1 = [0] from rfl, List.map_cons, List.map_nil, List.sum_cons, List.sum_nil] at hb
  have hs : ∀ l : List NodeE, (l.map fun n => n.fields.length + 1).sum = l.length + fieldsN (conL l) := by
    intro l
    induction l with
    | nil => rfl
    | cons n l ih =>
      rw [List.map_cons, List.sum_cons, ih, List.length_cons]
      have : fieldsN (conL (n :: l)) = n.fields.length + fieldsN (conL l) := by unfold fieldsN conL; simp [NodeE.con]
      omega
  rw [hs] at u0
  match cs, hlen with
  | [c0], _ =>
    simp at e0
    subst e0
    exact ⟨⟨a0.A, a0.c, a0.l⟩, rfl, ⟨g0, fun n hn => (n0 n hn).1, fun n hn => (n0 n hn).2⟩, by show a0.l.length + fieldsN (conL a0.l) + 1 ≤ _; omega⟩
set_option maxRecDepth 100000 in
theorem open_graphsU {H : Type} {enc : TypeId × Value → H} {w : World} {v : Value} {d : DataW H} {p : List MemPlace} {r : Go.Reach} {b0 : Nat} (hv : Value.okWide Tryz.prog w r b0 22 v) (h : DataW.Trod enc Tryz.prog w 0 (fun _ => true) true 22 v d p)
    (hw : ∀ n ∈ d.weights Tryz.prog 22, n ≤ reachBytes) (hb : Rows.uptoBulk d ≤ 1048576) : ∃ (A : Option Addr) (c : Nat) (gs : List GrE), v = .slice A gs.length c ∧ GraphsAt w A gs ∧ gs.length ≤ 1048576 ∧ totG gs ≤ 1048576 := by
  obtain ⟨a, len, cap, rfl⟩ := okWide_slice Tryz.underlying22 hv
  obtain ⟨x, e, ⟨g1, g2, g3, g4, g5⟩, u⟩ := (opensU_slice Tryz.underlying22 cellsOf_27 (by kernel_rfl : Tryz.prog.bytesOf 27 = 24) GrE.opensU (by decide) GrE.cells_length).arg h hw
  have hs : ∀ l : List GrE, (l.map fun g => cntG g.l + 1).sum = totG l + l.length := by
    intro l
    induction l with
    | nil => rfl
    | cons g l ih =>
      unfold totG at ih ⊢
      rw [List.map_cons, List.sum_cons, ih, List.length_cons, List.map_cons, List.sum_cons]
      omega
  rw [hs] at u
  refine ⟨x.A, x.c, x.l, ?_, ⟨g1, g5⟩, by omega, by omega⟩
  simpa [Value.cells] using e
end Go.Proofs.YtjegncmkebbdfaaGreatDoor

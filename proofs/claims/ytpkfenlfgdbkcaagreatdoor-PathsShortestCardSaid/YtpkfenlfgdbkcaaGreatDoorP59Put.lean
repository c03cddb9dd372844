/-
  Contracts of the functions of this seat that each theorem names: what a call returns, and that it writes nothing that was there before. The conditions stand in each theorem.
-/
import Derived.Test.YtpkfenlfgdbkcaaGreatDoorP59Mrg
set_option linter.unusedSimpArgs false
set_option linter.unusedVariables false
namespace Go.Proofs.YtpkfenlfgdbkcaaGreatDoor
open Go.RowKit
attribute [local go_sem ↓] run_eql_id run_neq_id
attribute [local go_sem] Oper.semAt_some
attribute [local simp] heap_drew
/-- What Put gives: the graph with one more node, or false. -/
def PutGPost (l : List NodeE) (n : NodeE) (w : World) (r : Ending) (w' : World) : Prop :=
  (∃ o OA OC, Hid (putN (conL l) n.con = some (conL o)) ∧ r = .returned (.tuple #[.agg #[.slice OA o.length OC], .bool true]) ∧ NodesAt w' OA o ∧ ((∀ x ∈ o, x ∈ l ∨ x = n) ∧ ∀ a : Addr, OA = some a → w.heap.size ≤ a.block) ∧ Below w.heap.size w w') ∨
  (∃ OA m OC, Hid (putN (conL l) n.con = none) ∧ r = .returned (.tuple #[.agg #[.slice OA m OC], .bool false]) ∧ Below w.heap.size w w')
theorem own_block {base : Nat} {w : World} {A : Option Addr} {m c : Nat} {l : List NodeE} (h : Own NodeE.cells 5 41 base w (.slice A m c) l) : ∀ a : Addr, A = some a → base ≤ a.block := fun a ha => by
  rcases h.form with ⟨h0, _⟩ | ⟨g, cap, hv, h3, _⟩
  · injection h0 with h0; rw [h0] at ha; cases ha
  · injection hv with hv
    rw [ha] at hv
    injection hv with hv
    rw [hv]
    exact h3
theorem ids_con {l : List NodeE} : ids (conL l) = l.map NodeE.id := by unfold ids conL; rw [List.map_map]; rfl
theorem posN_eq {l : List NodeE} {x : IDE} {k : Nat} (hk : k ≤ l.length) (h1 : ∀ (j : Nat) (y : NodeE), j < k → l[j]? = some y → ltI y.id x) (h2 : ∀ y, l[k]? = some y → ¬ ltI y.id x) : posN (conL l) x = k := by
  unfold posN
  rw [ids_con]
  refine cntI_eq (by rw [List.length_map]; exact hk) (fun j y hj hy => ?_) (fun y hy => ?_)
  · rw [List.getElem?_map] at hy
    obtain ⟨z, hz, rfl⟩ := Option.map_eq_some_iff.1 hy
    exact h1 j z hj hz
  · rw [List.getElem?_map] at hy
    obtain ⟨z, hz, rfl⟩ := Option.map_eq_some_iff.1 hy
    exact h2 z hz
theorem putN_ins {l : List NodeE} {n : NodeE} {k : Nat} (hp : posN (conL l) n.id = k) (h : ∀ y, l[k]? = some y → y.id ≠ n.id) : putN (conL l) n.con = some (conL (l.take k ++ [n] ++ l.drop k)) := by
  have hp' : posN (conL l) n.con.id = k := hp
  have e : conL (l.take k ++ [n] ++ l.drop k) = (conL l).take k ++ [n.con] ++ (conL l).drop k := by unfold conL; simp
  rw [e]
  unfold putN
  rw [hp']
  have hg : (conL l)[k]? = (l[k]?).map NodeE.con := by unfold conL; rw [List.getElem?_map]
  rw [hg]
  cases hy : l[k]? with
  | none => rfl
  | some y => exact if_neg (h y hy)
theorem putN_mrg {l : List NodeE} {n y : NodeE} {k : Nat} (hp : posN (conL l) n.id = k) (hy : l[k]? = some y) (h : y.id = n.id) : putN (conL l) n.con = (mergeN y.con n.con).map fun m => (conL l).set k m := by
  have hp' : posN (conL l) n.con.id = k := hp
  unfold putN
  rw [hp']
  have hg : (conL l)[k]? = some y.con := by unfold conL; rw [List.getElem?_map, hy]; rfl
  rw [hg]
  exact if_pos h
theorem putG_new {l : List NodeE} {n : NodeE} {k : Nat} {A A3 : Option Addr} {c3 : Nat} {w wz w3 : World} (Hp : Hid (putN (conL l) n.con = some (conL (l.take k ++ [n] ++ l.drop k)))) (hk : k ≤ l.length) (ho : Own NodeE.cells 5 41 wz.heap.size w3 (.slice A3 (l.length + 1) c3) (l.take k ++ [n] ++ l.drop k)) (hz : w.heap.size + 1 + 1 < wz.heap.size) (H : NodesAt w A l) (hn : SlAt ValE.cells 4 w n.A n.fields) (hnc : n.fields.length ≤ n.c ∧ n.c ≤ maxLen)
    (hb : Below w.heap.size w (w3.setCell ⟨w.heap.size + 1 + 1, 0, none⟩ (.slice A3 (l.length + 1) c3))) : PutGPost l n w (.returned (.tuple #[.agg #[.slice A3 (l.length + 1) c3], .bool true])) (w3.setCell ⟨w.heap.size + 1 + 1, 0, none⟩ (.slice A3 (l.length + 1) c3)) := by
  have hlen : (l.take k ++ [n] ++ l.drop k).length = l.length + 1 := by simp; omega
  have hmem : ∀ m ∈ l.take k ++ [n] ++ l.drop k, m ∈ l ∨ m = n := fun m hm => by
    rcases List.mem_append.1 hm with hm | hm
    · rcases List.mem_append.1 hm with hm | hm
      · exact .inl (List.mem_of_mem_take hm)
      · exact .inr (List.mem_singleton.1 hm)
    · exact .inl (List.mem_of_mem_drop hm)
  refine .inl ⟨_, A3, c3, Hp, by rw [hlen], ⟨?_, fun m hm => ?_, fun m hm => ?_⟩, ⟨hmem, fun a ha => by have := own_block ho a ha; omega⟩, hb⟩
  · exact ((ho.set (p := ⟨w.heap.size + 1 + 1, 0, none⟩) hz (.slice A3 (l.length + 1) c3)).at_ NodeE.enc).2.2
  · rcases hmem m hm with h | rfl
    · exact (H.f m h).below hb
    · exact hn.below hb
  · rcases hmem m hm with h | rfl
    · exact H.c m h
    · exact hnc
theorem own_node_set {base g n c k : Nat} {w : World} {l : List NodeE} {y m : NodeE} (h : Own NodeE.cells 5 41 base w (.slice (some ⟨g, 0, none⟩) n c) l) (hy : l[k]? = some y) :
    Own NodeE.cells 5 41 base (((((w.setCell ⟨g, k * 5, none⟩ (.int .i64 m.iDMachine)).setCell ⟨g, k * 5 + 1, none⟩ (.int .i64 m.iDSerial)).setCell ⟨g, k * 5 + 2, none⟩ (.int .i64 m.kind)).setCell ⟨g, k * 5 + 3, none⟩ (.int .i64 m.clas)).setCell ⟨g, k * 5 + 4, none⟩ (.slice m.A m.fields.length m.c)) (.slice (some ⟨g, 0, none⟩) n c) (l.set k m) := by
  have hk : k < l.length := (List.getElem?_eq_some_iff.1 hy).1
  have s0 := h.store NodeE.enc (j := 0) (x' := ⟨m.iDMachine, y.iDSerial, y.kind, y.clas, y.A, y.c, y.fields⟩) (u := .int .i64 m.iDMachine) hy (by decide) rfl
  have s1 := s0.store NodeE.enc (k := k) (j := 1) (x' := ⟨m.iDMachine, m.iDSerial, y.kind, y.clas, y.A, y.c, y.fields⟩) (u := .int .i64 m.iDSerial) (List.getElem?_set_self hk) (by decide) rfl
  rw [List.set_set] at s1
  have s2 := s1.store NodeE.enc (k := k) (j := 2) (x' := ⟨m.iDMachine, m.iDSerial, m.kind, y.clas, y.A, y.c, y.fields⟩) (u := .int .i64 m.kind) (List.getElem?_set_self hk) (by decide) rfl
  rw [List.set_set] at s2
  have s3 := s2.store NodeE.enc (k := k) (j := 3) (x' := ⟨m.iDMachine, m.iDSerial, m.kind, m.clas, y.A, y.c, y.fields⟩) (u := .int .i64 m.clas) (List.getElem?_set_self hk) (by decide) rfl
  rw [List.set_set] at s3
  have s4 := s3.store NodeE.enc (k := k) (j := 4) (x' := m) (u := .slice m.A m.fields.length m.c) (List.getElem?_set_self hk) (by decide) rfl
  rw [List.set_set] at s4
  exact s4
theorem putG_mrg {l : List NodeE} {n y m : NodeE} {k g7 o7 c7 B : Nat} {A : Option Addr} {w w10 : World} (Hp : Hid (putN (conL l) n.con = (mergeN y.con n.con).map fun m => (conL l).set k m)) (Ho : Hid (o7 = 0)) (hmo : m = y ∨ m = n) (hmz : Hid (∀ z, mergeN y.con n.con = some z → m.con = z)) (hym : y ∈ l)
    (Hown : Hid (Own NodeE.cells 5 41 B w10 (.slice (some ⟨g7, 0, none⟩) l.length c7) (l.set k m))) (hB : w.heap.size + 1 + 1 < B) (H : NodesAt w A l) (hn : SlAt ValE.cells 4 w n.A n.fields) (hnc : n.fields.length ≤ n.c ∧ n.c ≤ maxLen)
    (hb : Below w.heap.size w (w10.setCell ⟨w.heap.size + 1 + 1, 0, none⟩ (.slice (some ⟨g7, o7, none⟩) l.length c7))) : PutGPost l n w (.returned (.tuple #[.agg #[.slice (some ⟨g7, o7, none⟩) l.length c7], .bool (mergeN y.con n.con).isSome])) (w10.setCell ⟨w.heap.size + 1 + 1, 0, none⟩ (.slice (some ⟨g7, o7, none⟩) l.length c7)) := by
  cases hm : mergeN y.con n.con with
  | none => exact .inr ⟨_, l.length, c7, hide (by rw [Hp.out, hm]; rfl), rfl, hb⟩
  | some z =>
    have hz := hmz.out z hm
    have e : conL (l.set k m) = (conL l).set k z := by unfold conL; rw [List.map_set, hz]
    have hmem : ∀ x ∈ l.set k m, x ∈ l ∨ x = n := fun x hx => by
      rcases List.mem_or_eq_of_mem_set hx with h | rfl
      · exact .inl h
      · rcases hmo with rfl | rfl
        · exact .inl hym
        · exact .inr rfl
    refine .inl ⟨l.set k m, some ⟨g7, o7, none⟩, c7, hide (by rw [Hp.out, hm, e]; rfl), by rw [List.length_set]; rfl, ⟨?_, fun x hx => ?_, fun x hx => ?_⟩, ⟨hmem, fun a ha => by injection ha with ha; rw [← ha]; have := own_block Hown.out _ rfl; dsimp only at this ⊢; omega⟩, hb⟩
    · rw [Ho.out]
      exact ((Hown.out.set (p := ⟨w.heap.size + 1 + 1, 0, none⟩) hB _).at_ NodeE.enc).2.2
    · rcases hmem x hx with h | rfl
      · exact (H.f x h).below hb
      · exact hn.below hb
    · rcases hmem x hx with h | rfl
      · exact H.c x h
      · exact hnc
set_option maxRecDepth 100000 in
set_option maxHeartbeats 8000000 in
theorem putG_any (A : Option Addr) (c : Nat) (l : List NodeE) (n : NodeE) (w : World) (H : NodesAt w A l) (hn : SlAt ValE.cells 4 w n.A n.fields) (hnc : n.fields.length ≤ n.c ∧ n.c ≤ maxLen) (hl : l.length ≤ 10000) (hf : ∀ m ∈ l, m.fields.length ≤ 1000000000) (hnf : n.fields.length ≤ 1000000000) :
    Calls Tryz.prog 90 #[.agg #[.slice A l.length c], n.v] w (PutGPost l n w) := by
  have HL := H.later
  have hl' : l.length ≤ 9223372036854775807 := by omega
  go_enter Tryz.func90, Tryz.ntmps90
  go_upto_region 2 with fail
  refine wp_name ?_
  intro w0 hw0
  obtain ⟨B0, B1, B2, l0⟩ := box3 hw0
  clear hw0
  have l00 : Later w0 w0 := Later.refl
  go_loopw [6] (fun i wr => ∃ k : Nat, k ≤ l.length ∧ i = .int .i64 k ∧ Hid (∀ (j : Nat) (y : NodeE), j < k → l[j]? = some y → ltI y.id n.id) ∧ Below w0.heap.size w0 wr) (fun i _ => l.length - (intOf i).toNat)
  case atStart => exact ⟨0, by omega, rfl, hide fun j x h => absurd h (by omega), Below.refl _ _⟩
  case round =>
    obtain ⟨k, hk, rfl, Hlo, hbw⟩ := hrel
    have lr := later hbw
    have lrr : Later wr wr := Later.refl
    by_cases hlt : k < l.length
    · obtain ⟨g1, o1, y, rfl, hy, C1, F1, -, -⟩ := (HL wr).get hlt
      have Hy := hide hy
      have hki : (k : Int) < (l.length : Int) := by omega
      clear hy
      obtain ⟨cv, hcv⟩ : ∃ cv, cv = cmpI y.id n.id := ⟨_, rfl⟩
      have HC : ∀ u, Calls Tryz.prog 111 #[.agg #[.int .i64 y.iDMachine, .int .i64 y.iDSerial], .agg #[.int .i64 n.iDMachine, .int .i64 n.iDSerial]] u fun r w' => r = .returned (.int .i64 cv) ∧ Below u.heap.size u w' := fun u => by rw [hcv]; exact compare16_any y.id n.id u
      have Hcv := hide hcv
      clear hcv
      by_cases hlt2 : ltI y.id n.id
      · obtain rfl : cv = -1 := by rw [Hcv.out]; unfold cmpI; rw [if_neg (by intro e; rw [e] at hlt2; exact ltI_irrefl _ hlt2), if_pos hlt2]
        have Hn := hide hlt2
        clear hlt2
        go_upto_region 2 with fail
        (refine wp_region_after (by kernel_rfl) (by kernel_rfl) ?_
         repeat (any_goals (first | go_big_quiet_skip | (go_big_quiet_want; go_big_quiet_op; first | go_big_quiet_on | go_big_quiet_call ((go_at_call 111; exact Calls.after (HC _)))) | quiet_step ((go_at_call 111; exact Calls.after (HC _))) | (refine wpQuiet_step (fun K hK => ?_); go_simp; split <;> (refine hK _ ?_; clear hK K))))
         all_goals (refine wpQuiet_nil ?_; intro _ hw'; obtain ⟨u', hw''⟩ := hw'; subst hw''; obtain ⟨wd, hbd⟩ := u'; simp only [After.val_mk]))
        have ld := later hbd
        go_wp2_with fail
        go_roundw
        case rel => exact ⟨k + 1, by omega, by go_num, hide fun j z hj hz => by
          rcases Nat.lt_or_ge j k with h | h
          · exact Hlo.out j z h hz
          · have : j = k := by omega
            subst this
            rw [Hy.out] at hz; injection hz with hz; subst hz; exact Hn.out, hbw.trans (hbd.mono hbw.size)⟩
        case measure => simp [intOf]; omega
      · have Hk := hide (posN_eq (x := n.id) hk Hlo.out (fun z hz => by rw [Hy.out] at hz; injection hz with hz; subst hz; exact hlt2))
        have hcn : decide (cv < 0) = false := by
          have := Hcv.out
          unfold cmpI at this
          rw [if_neg hlt2] at this
          split at this <;> simp [this]
        clear hlt2 Hlo
        go_upto_region 2 with fail
        (refine wp_region_after (by kernel_rfl) (by kernel_rfl) ?_
         repeat (any_goals (first | go_big_quiet_skip | (go_big_quiet_want; go_big_quiet_op; first | go_big_quiet_on | go_big_quiet_call ((go_at_call 111; exact Calls.after (HC _)))) | quiet_step ((go_at_call 111; exact Calls.after (HC _))) | (refine wpQuiet_step (fun K hK => ?_); go_simp; split <;> (refine hK _ ?_; clear hK K))))
         all_goals (refine wpQuiet_nil ?_; intro _ hw'; obtain ⟨u', hw''⟩ := hw'; subst hw''; obtain ⟨wd, hbd⟩ := u'; simp only [After.val_mk]))
        have ld := later hbd
        have hbd0 : Below w0.heap.size w0 wd := hbw.trans (hbd.mono hbw.size)
        clear hbd
        have lwd : Later w wd := inferInstance
        go_upto_region 5 with (at_builtin; refine wpList_appE rfl (.tmp 29) (.tmp 31) rfl NodeE.enc nodeT _ _ l rfl rfl (HL _).s (by omega) (by unfold maxLen; omega) ?_; intro A7 c7 w7 ho7 hm7 hb7; have l7 := later hb7)
        have hbw7 : Below w.heap.size w w7 := below_of
        have hc7 : c7 ≤ maxLen := hm7
        have hc7l : l.length ≤ c7 := (ho7.at_ NodeE.enc).2.1
        have H7 : NodesAt w7 A7 l := ⟨(ho7.at_ NodeE.enc).2.2, fun m hm => (H.f m hm).below hbw7, H.c⟩
        have l77 : Later w7 w7 := Later.refl
        obtain ⟨g7, o7, y7, rfl, hy7, C7, -, -, -⟩ := (H7.later w7).get hlt
        obtain rfl : y = y7 := by rw [Hy.out] at hy7; injection hy7
        have HL7 : ∀ u [Later w7 u], SlAt NodeE.cells 5 u (some ⟨g7, o7, none⟩) l := fun u i => H7.s.below i.below
        have lk0 : (0 : Int) ≤ (k : Int) := by omega
        clear hy7
        cases hq : ideq y.iDMachine y.iDSerial n.iDMachine n.iDSerial
        · have hne : ∀ z, l[k]? = some z → z.id ≠ n.id := fun z hz e => by
            rw [Hy.out] at hz; injection hz with hz; subst hz
            have := @ideq_iff y.id n.id
            unfold NodeE.id at this e
            rw [hq, e] at this
            simp at this
          have Hp := hide (putN_ins Hk.out hne)
          clear hne Hk Hcv
          go_upto_region 5 with fail
          (refine wp_region_after (by kernel_rfl) (by kernel_rfl) ?_
           repeat (any_goals (first | go_big_quiet_skip | (go_big_quiet_want; go_big_quiet_op; first | go_big_quiet_on | go_big_quiet_call (fail)) | quiet_step (fail) | (refine wpQuiet_step (fun K hK => ?_); go_simp; split <;> (refine hK _ ?_; clear hK K))))
           all_goals (refine wpQuiet_nil ?_; intro _ hw'; obtain ⟨u', hw''⟩ := hw'; subst hw''; obtain ⟨wd, hbd⟩ := u'; simp only [After.val_mk]))
          have ld := later hbd
          go_upto_region 9 with fail
          refine wp_name ?_
          intro wz hwz
          have lz := later_name' hwz (inferInstance : Later w0 _)
          have lz7 := later_name' hwz (inferInstance : Later w7 _)
          have hsrc : ∀ u [Later w7 u], SlAt NodeE.cells 5 u (if c7 = k then some ⟨g7, o7, none⟩ else some ⟨g7, o7 + k * 5, none⟩) (l.drop k) := fun u i => by rw [if_neg (by omega)]; exact SlAt.drop (HL7 u) k
          have hzb : w.heap.size + 1 < wz.heap.size := Nat.lt_of_lt_of_le (blk_lt (B1 w0).1) (lz w0).below.size
          have hzb2 : w.heap.size + 1 + 1 < wz.heap.size := Nat.lt_of_lt_of_le (blk_lt (B2 w0).1) (lz w0).below.size
          have hk0 : (0 : Int) ≤ (k : Int) := by omega
          have hkc : (k : Int) ≤ (c7 : Int) := by omega
          have hkl : (k : Int) ≤ (l.length : Int) := by omega
          have q0 := blk_cell (B1 wz).1 0
          have q1 := blk_cell (B1 wz).1 1
          have q2 := blk_cell (B1 wz).1 2
          have q3 := blk_cell (B1 wz).1 3
          have q4 := blk_cell (B1 wz).1 4
          simp at q0 q1 q2 q3 q4
          clear hwz
          have htk : (l.take k).length = k := by rw [List.length_take]; omega
          have hdk : (l.drop k).length = l.length - k := by rw [List.length_drop]
          go_region_held3 (fun w' => w'.cell? ⟨w.heap.size + 1, 0, none⟩ = some (.int .i64 n.iDMachine) ∧ w'.cell? ⟨w.heap.size + 1, 1, none⟩ = some (.int .i64 n.iDSerial) ∧ w'.cell? ⟨w.heap.size + 1, 2, none⟩ = some (.int .i64 n.kind) ∧ w'.cell? ⟨w.heap.size + 1, 3, none⟩ = some (.int .i64 n.clas) ∧ w'.cell? ⟨w.heap.size + 1, 4, none⟩ = some (.slice n.A n.fields.length n.c)) (first | go_keep)
            ((first
              | (have ho9 := ho2
                 refine step_app (P := Tryz.prog) rfl (.tmp 70) (.tmp 73) (by rfl) NodeE.enc nodeT (if c7 = k then some ⟨g7, o7, none⟩ else some ⟨g7, o7 + k * 5, none⟩) (c7 - k) (l.drop k) (l.take k ++ [n]) (.slice A2 (k + 1) c2) (by rfl) (by rfl) (m := l.length - k) (n := l.length + 1) hdk (by simp only [List.length_append, htk, List.length_singleton] <;> omega) (ho2.later _) (hsrc _) (by omega) (by simp [maxLen]; omega) (by first | (simp; done) | (simp; omega) | omega) ?_
                 intro A3 c3 w3 ho3 hm3 hb3 hg3
                 have l3 := later_base (W := wz) hb3
                 have hz3 : wz.heap.size ≤ w3.heap.size := (l3 wz).below.size
                 have p0 := blk_cell (B1 w3).1 0
                 have p1 := blk_cell (B1 w3).1 1
                 have p2 := blk_cell (B1 w3).1 2
                 have p3 := blk_cell (B1 w3).1 3
                 have p4 := blk_cell (B1 w3).1 4
                 simp at p0 p1 p2 p3 p4)
              | (refine step_app rfl (.tmp 67) (.tmp 69) (by rfl) NodeE.enc nodeT _ _ [n] (l.take k) _ (by rfl) (by rfl) (m := 1) (n := k + 1) rfl (by rw [htk]) (ho1.later _) (blk_slAt NodeE.enc (fr := (0, 0)) (e := 41) (by first | (exact (by (simp only [heap_drew, heap_alloc_if, World.size_alloc]); (repeat (first | rw [if_pos rfl] | rw [if_neg (by omega)] | rw [if_pos (by omega)])); try rfl)) | (refine (hgh _ (by first | (simp; done) | (simp; omega) | omega) (by simp [Value.ownBlock] <;> omega)).trans (by (simp only [heap_drew, heap_alloc_if, World.size_alloc]); (repeat (first | rw [if_pos rfl] | rw [if_neg (by omega)] | rw [if_pos (by omega)])); try rfl))) [n] (by rfl)) (by omega) (by simp [maxLen]; omega) (by first | (simp; done) | (simp; omega) | omega) ?_
                 intro A2 c2 w2 ho2 hm2 hb2 hg2
                 have l2 := later_base (W := wz) hb2
                 have hz2 : wz.heap.size ≤ w2.heap.size := (l2 wz).below.size
                 have p0 := blk_cell (B1 w2).1 0
                 have p1 := blk_cell (B1 w2).1 1
                 have p2 := blk_cell (B1 w2).1 2
                 have p3 := blk_cell (B1 w2).1 3
                 have p4 := blk_cell (B1 w2).1 4
                 simp at p0 p1 p2 p3 p4)
              | (refine step_app rfl (.tmp 63) (.tmp 66) (by rfl) NodeE.enc nodeT _ _ (l.take k) ([] : List NodeE) (.slice (some ⟨_, 0, none⟩) 0 0) (by rfl) (by rfl) htk (Nat.zero_add _) (Own.empty_blk (base := wz.heap.size) (by first | (simp; done) | (simp; omega) | omega) (by (simp only [heap_drew, heap_alloc_if, World.size_alloc]); (repeat (first | rw [if_pos rfl] | rw [if_neg (by omega)] | rw [if_pos (by omega)])); try rfl)) ((HL7 _).take _) (by omega) (by simp [maxLen]; omega) (by first | (simp; done) | (simp; omega) | omega) ?_
                 intro A1 c1 w1 ho1 hm1 hb1 hg1
                 obtain ⟨-, -, -, -, hgh⟩ := hg1
                 have l1 := later_base (W := wz) hb1
                 have hz1 : wz.heap.size ≤ w1.heap.size := (l1 wz).below.size
                 have p0 := blk_cell (B1 w1).1 0
                 have p1 := blk_cell (B1 w1).1 1
                 have p2 := blk_cell (B1 w1).1 2
                 have p3 := blk_cell (B1 w1).1 3
                 have p4 := blk_cell (B1 w1).1 4
                 simp at p0 p1 p2 p3 p4)
              | fail))
          all_goals go_wp2_with fail
          all_goals
            have rb := blk_cell (blk_set (B2 w3).1 0 (.slice A3 (l.length + 1) c3)) 0
            simp at rb
            have hbf : Below w.heap.size w (w3.setCell ⟨w.heap.size + 1 + 1, 0, none⟩ (.slice A3 (l.length + 1) c3)) := (below_of (b := w) (w := w3)).setCell (p := ⟨w.heap.size + 1 + 1, 0, none⟩) (by simp; omega) _
            refine bodyPost_ret (v := .tuple #[.agg #[.slice A3 (l.length + 1) c3], .bool true]) (by simp [results, Tryz.results90, go_sem, rb]) rfl ?_
            exact putG_new Hp hk ho3 hzb2 H hn hnc hbf
        · have hid : y.id = n.id := by
            have := @ideq_iff y.id n.id
            unfold NodeE.id at this ⊢
            rw [hq] at this
            simpa using this.symm
          have Hp := hide (putN_mrg Hk.out Hy.out hid)
          have hym := List.mem_of_getElem? Hy.out
          have HMG : ∀ u [Later w7 u], Calls Tryz.prog 112 #[.agg #[.int .i64 y.iDMachine, .int .i64 y.iDSerial, .int .i64 y.kind, .int .i64 y.clas, .slice y.A y.fields.length y.c], .agg #[.int .i64 n.iDMachine, .int .i64 n.iDSerial, .int .i64 n.kind, .int .i64 n.clas, .slice n.A n.fields.length n.c]] u (MergePost y n u) := fun u i => merge16_any y n u ((H.f y hym).below (hbw7.trans (i.below.mono hbw7.size))) (hn.below (hbw7.trans (i.below.mono hbw7.size))) (hf y hym) hnf
          have hb1 : w.heap.size + 1 < w7.heap.size := blk_lt (B1 w7).1
          have hg7 : g7 < w7.heap.size := by
            rcases ho7.form with ⟨h0, _⟩ | ⟨g', cap, hv, _, h4, _⟩
            · cases h0
            · injection hv with hv
              injection hv with hv
              injection hv with hv
              omega
          have hgw : wd.heap.size ≤ g7 := by
            rcases ho7.form with ⟨h0, _⟩ | ⟨g', cap, hv, h3, _, _⟩
            · cases h0
            · injection hv with hv
              injection hv with hv
              injection hv with hv
              omega
          have hgw2 : w.heap.size + 1 + 1 < wd.heap.size := blk_lt (B2 wd).1
          have hgw3 : w.heap.size ≤ g7 := by omega
          have hgw4 : w.heap.size + 1 + 1 ≠ g7 := by omega
          have ho0 : o7 = 0 := by
            obtain ⟨g, hg⟩ := ho7.isSome (by intro e; rw [e] at hlt; simp at hlt)
            injection hg with hg
            injection hg
          have ho7z : Own NodeE.cells 5 41 wd.heap.size w7 (.slice (some ⟨g7, 0, none⟩) l.length c7) l := by rw [← ho0]; exact ho7
          have Ho0 := hide ho0
          obtain ⟨BD, hBD⟩ : ∃ b, b = wd.heap.size := ⟨_, rfl⟩
          rw [← hBD] at ho7z hgw hgw2
          clear hBD
          clear hid Hk Hcv ho0
          go_upto_region 5 with fail
          (refine wp_region_after (by kernel_rfl) (by kernel_rfl) ?_
           repeat (any_goals (first | go_big_quiet_skip | (go_big_quiet_want; go_big_quiet_op; first | go_big_quiet_on | go_big_quiet_call (fail)) | quiet_step (fail) | (refine wpQuiet_step (fun K hK => ?_); go_simp; split <;> (refine hK _ ?_; clear hK K))))
           all_goals (refine wpQuiet_nil ?_; intro _ hw'; obtain ⟨u', hw''⟩ := hw'; subst hw''; obtain ⟨wd, hbd⟩ := u'; simp only [After.val_mk]))
          have ld := later hbd
          have lwz : Later w7 wd := inferInstance
          go_upto_region 6 with fail
          refine wp_name ?_
          intro wz hwz
          have lz := later_name' hwz (inferInstance : Later w0 _)
          have lz7 := later_name' hwz (inferInstance : Later w7 _)
          have q0 := blk_cell (B1 wz).1 0
          have q1 := blk_cell (B1 wz).1 1
          have q2 := blk_cell (B1 wz).1 2
          have q3 := blk_cell (B1 wz).1 3
          have q4 := blk_cell (B1 wz).1 4
          simp at q0 q1 q2 q3 q4
          obtain ⟨r0, r1, r2, r3, r4⟩ := C7 wz
          have hzz : w7.heap.size ≤ wz.heap.size := (lz7 w7).below.size
          have hn1 : w.heap.size + 1 ≠ wz.heap.size := by omega
          have hn7 : g7 ≠ wz.heap.size := by omega
          have hn1' : wz.heap.size ≠ w.heap.size + 1 := by omega
          have hn7' : wz.heap.size ≠ g7 := by omega
          have hl0 : (0 : Int) ≤ (k : Int) := by omega
          clear hwz
          go_region_held3 (fun w' => w'.cell? ⟨w.heap.size + 1, 0, none⟩ = some (.int .i64 n.iDMachine) ∧ w'.cell? ⟨w.heap.size + 1, 1, none⟩ = some (.int .i64 n.iDSerial) ∧ w'.cell? ⟨w.heap.size + 1, 2, none⟩ = some (.int .i64 n.kind) ∧ w'.cell? ⟨w.heap.size + 1, 3, none⟩ = some (.int .i64 n.clas) ∧ w'.cell? ⟨w.heap.size + 1, 4, none⟩ = some (.slice n.A n.fields.length n.c) ∧ w'.cell? ⟨g7, o7 + k * 5, none⟩ = some (.int .i64 y.iDMachine) ∧ w'.cell? ⟨g7, o7 + k * 5 + 1, none⟩ = some (.int .i64 y.iDSerial) ∧ w'.cell? ⟨g7, o7 + k * 5 + 2, none⟩ = some (.int .i64 y.kind) ∧ w'.cell? ⟨g7, o7 + k * 5 + 3, none⟩ = some (.int .i64 y.clas) ∧ w'.cell? ⟨g7, o7 + k * 5 + 4, none⟩ = some (.slice y.A y.fields.length y.c)) (first | go_keep)
            ((first
              | (go_at_call 112
                 refine (HMG _).mono ?_
                 rintro r w8 ⟨m, hmo, hmz, rfl, hb8⟩
                 have l8 := later hb8
                 have p0 := blk_cell (B1 w8).1 0
                 have p1 := blk_cell (B1 w8).1 1
                 have p2 := blk_cell (B1 w8).1 2
                 have p3 := blk_cell (B1 w8).1 3
                 have p4 := blk_cell (B1 w8).1 4
                 simp at p0 p1 p2 p3 p4
                 obtain ⟨t0, t1, t2, t3, t4⟩ := C7 w8
                 have hz8 : w7.heap.size ≤ w8.heap.size := (inferInstance : Later w7 w8).below.size
                 have hm1 : w.heap.size + 1 ≠ w8.heap.size := by omega
                 have hm7 : g7 ≠ w8.heap.size := by omega
                 have hm1' : w8.heap.size ≠ w.heap.size + 1 := by omega
                 have hm7' : w8.heap.size ≠ g7 := by omega
                 first
                   | (have xb : w8.heap[wz.heap.size]? = some (.cells #[.int .i64 0, .int .i64 0, .int .i64 0, .int .i64 0, .slice none 0 0] 41 (0, 0)) := by
                        refine blk_below ?_ hb8
                        exact heap_alloc_new _ _
                      have XB := boxed xb)
                   | skip
                 have l88 : Later w8 w8 := Later.refl)
              | fail))
          · go_upto_region 7 with fail
            refine wp_name ?_
            intro w9 hw9
            have h9 : w9.heap[w8.heap.size]? = some (.cells m.arr 41 (0, 0)) := (by rw [← hw9]; simp only [heap_alloc_if, World.size_alloc]; repeat (first | rw [if_pos trivial] | rw [if_neg (by omega)] | rw [if_pos (by omega)]); try rfl)
            have hb9 : Below w7.heap.size w7 w9 := by rw [← hw9]; exact (below_of (b := w7) (w := w8)).trans (((by repeat (first | with_reducible exact Below.refl _ _ | (with_reducible refine Below.drew ?_) | (with_reducible refine below_drewN ?_ _) | (with_reducible refine Below.alloc ?_ ?_ _; rotate_left; (first | omega | (simp <;> omega))) | (with_reducible refine Below.setCell ?_ ?_ _; rotate_left; (first | omega | (simp <;> omega))))) : Below w8.heap.size w8 _).mono hz8)
            clear hw9
            have l9 : ∀ b [Later b w7], Later b w9 := fun b i => ⟨i.below.trans (hb9.mono i.below.size)⟩
            have l99 : Later w9 w9 := Later.refl
            have BX := boxed h9
            have FR : ∀ u [Later w7 u] (j : Nat), u.frozen? ⟨g7, j, none⟩ = false := fun u i j => (ho7z.below i.below).free j
            have e0 := FR w9 (o7 + k * 5)
            have e1 := FR w9 (o7 + k * 5 + 1)
            have e2 := FR w9 (o7 + k * 5 + 2)
            have e3 := FR w9 (o7 + k * 5 + 3)
            have e4 := FR w9 (o7 + k * 5 + 4)
            obtain ⟨s0, s1, s2, s3, s4⟩ := C7 w9
            have hb0 : Below w.heap.size w w9 := hbw7.trans (hb9.mono hbw7.size)
            have B29 := (B2 w9)
            clear q0 q1 q2 q3 q4 r0 r1 r2 r3 r4 p0 p1 p2 p3 p4 t0 t1 t2 t3 t4 HMG hn1 hn7 hn1' hn7' hm1 hm7 hm1' hm7' hzz hz8 FR C1 F1 hb1 hg7 HL7 HC
            go_upto_region 8 with fail
            refine wp_name ?_
            intro w10 hw10
            have ez : o7 + k * 5 = k * 5 := by rw [Ho0.out]; omega
            rw [ez] at hw10
            have own10 : Own NodeE.cells 5 41 BD w10 (.slice (some ⟨g7, 0, none⟩) l.length c7) (l.set k m) := by rw [← hw10]; exact own_node_set (ho7z.below hb9) Hy.out
            have hb10 : Below w.heap.size w w10 := by rw [← hw10]; exact (by repeat (first | with_reducible exact hb0 | with_reducible exact Below.refl _ _ | (with_reducible refine Below.drew ?_) | (with_reducible refine below_drewN ?_ _) | (with_reducible refine Below.alloc ?_ ?_ _; rotate_left; (first | omega | (simp <;> omega))) | (with_reducible refine Below.setCell ?_ ?_ _; rotate_left; (first | omega | (simp <;> omega)))))
            have hR10 : w10.heap[w.heap.size + 1 + 1]? = some (.cells #[.slice none 0 0] 36 (0, 0)) := by
              rw [← hw10, blk_far (by simp; omega), blk_far (by simp; omega), blk_far (by simp; omega), blk_far (by simp; omega), blk_far (by simp; omega)]
              exact B29.1
            clear hw10 ez e0 e1 e2 e3 e4 s0 s1 s2 s3 s4
            have l1010 : Later w10 w10 := Later.refl
            have BR := boxed hR10
            have Hown := hide own10
            clear own10
            go_wp2_with fail
            have rb := blk_cell (blk_set hR10 0 (.slice (some ⟨g7, o7, none⟩) l.length c7)) 0
            simp at rb
            have hbf : Below w.heap.size w (w10.setCell ⟨w.heap.size + 1 + 1, 0, none⟩ (.slice (some ⟨g7, o7, none⟩) l.length c7)) := hb10.setCell (p := ⟨w.heap.size + 1 + 1, 0, none⟩) (by simp; omega) _
            refine bodyPost_ret (v := .tuple #[.agg #[.slice (some ⟨g7, o7, none⟩) l.length c7], .bool (mergeN y.con n.con).isSome]) (by simp [results, Tryz.results90, go_sem, rb]) rfl ?_
            exact putG_mrg Hp Ho0 hmo hmz hym Hown hgw2 H hn hnc hbf
          · go_upto_region 7 with fail
            refine wp_name ?_
            intro w9 hw9
            have h9 : w9.heap[wz.heap.size]? = some (.cells m.arr 41 (0, 0)) := by
              have b5 := blk_set (blk_set (blk_set (blk_set (blk_set xb 0 (.int .i64 m.iDMachine)) 1 (.int .i64 m.iDSerial)) 2 (.int .i64 m.kind)) 3 (.int .i64 m.clas)) 4 (.slice m.A m.fields.length m.c)
              simp at b5
              rw [← hw9]
              exact b5
            have hbw8 : Below w7.heap.size w7 w8 := below_of
            have hb9 : Below w7.heap.size w7 w9 := by rw [← hw9]; exact (by repeat (first | with_reducible exact hbw8 | with_reducible exact Below.refl _ _ | (with_reducible refine Below.drew ?_) | (with_reducible refine below_drewN ?_ _) | (with_reducible refine Below.alloc ?_ ?_ _; rotate_left; (first | omega | (simp <;> omega))) | (with_reducible refine Below.setCell ?_ ?_ _; rotate_left; (first | omega | (simp <;> omega)))))
            clear hw9
            have l9 : ∀ b [Later b w7], Later b w9 := fun b i => ⟨i.below.trans (hb9.mono i.below.size)⟩
            have l99 : Later w9 w9 := Later.refl
            have BX := boxed h9
            have FR : ∀ u [Later w7 u] (j : Nat), u.frozen? ⟨g7, j, none⟩ = false := fun u i j => (ho7z.below i.below).free j
            have e0 := FR w9 (o7 + k * 5)
            have e1 := FR w9 (o7 + k * 5 + 1)
            have e2 := FR w9 (o7 + k * 5 + 2)
            have e3 := FR w9 (o7 + k * 5 + 3)
            have e4 := FR w9 (o7 + k * 5 + 4)
            obtain ⟨s0, s1, s2, s3, s4⟩ := C7 w9
            have hb0 : Below w.heap.size w w9 := hbw7.trans (hb9.mono hbw7.size)
            have B29 := (B2 w9)
            clear q0 q1 q2 q3 q4 r0 r1 r2 r3 r4 p0 p1 p2 p3 p4 t0 t1 t2 t3 t4 HMG hn1 hn7 hn1' hn7' hm1 hm7 hm1' hm7' hzz hz8 FR C1 F1 hb1 hg7 HL7 HC
            go_upto_region 8 with fail
            refine wp_name ?_
            intro w10 hw10
            have ez : o7 + k * 5 = k * 5 := by rw [Ho0.out]; omega
            rw [ez] at hw10
            have own10 : Own NodeE.cells 5 41 BD w10 (.slice (some ⟨g7, 0, none⟩) l.length c7) (l.set k m) := by rw [← hw10]; exact own_node_set (ho7z.below hb9) Hy.out
            have hb10 : Below w.heap.size w w10 := by rw [← hw10]; exact (by repeat (first | with_reducible exact hb0 | with_reducible exact Below.refl _ _ | (with_reducible refine Below.drew ?_) | (with_reducible refine below_drewN ?_ _) | (with_reducible refine Below.alloc ?_ ?_ _; rotate_left; (first | omega | (simp <;> omega))) | (with_reducible refine Below.setCell ?_ ?_ _; rotate_left; (first | omega | (simp <;> omega)))))
            have hR10 : w10.heap[w.heap.size + 1 + 1]? = some (.cells #[.slice none 0 0] 36 (0, 0)) := by
              rw [← hw10, blk_far (by simp; omega), blk_far (by simp; omega), blk_far (by simp; omega), blk_far (by simp; omega), blk_far (by simp; omega)]
              exact B29.1
            clear hw10 ez e0 e1 e2 e3 e4 s0 s1 s2 s3 s4
            have l1010 : Later w10 w10 := Later.refl
            have BR := boxed hR10
            have Hown := hide own10
            clear own10
            go_wp2_with fail
            have rb := blk_cell (blk_set hR10 0 (.slice (some ⟨g7, o7, none⟩) l.length c7)) 0
            simp at rb
            have hbf : Below w.heap.size w (w10.setCell ⟨w.heap.size + 1 + 1, 0, none⟩ (.slice (some ⟨g7, o7, none⟩) l.length c7)) := hb10.setCell (p := ⟨w.heap.size + 1 + 1, 0, none⟩) (by simp; omega) _
            refine bodyPost_ret (v := .tuple #[.agg #[.slice (some ⟨g7, o7, none⟩) l.length c7], .bool (mergeN y.con n.con).isSome]) (by simp [results, Tryz.results90, go_sem, rb]) rfl ?_
            exact putG_mrg Hp Ho0 hmo hmz hym Hown hgw2 H hn hnc hbf
    · have hk' : k = l.length := by omega
      subst hk'
      have Hk := hide (posN_eq (x := n.id) hk Hlo.out (fun z hz => by rw [List.getElem?_eq_none (by omega)] at hz; cases hz))
      have hki : ¬ ((l.length : Int) < (l.length : Int)) := by omega
      have hbd00 := hbw
      go_upto_region 2 with fail
      (refine wp_region_after (by kernel_rfl) (by kernel_rfl) ?_
       repeat (any_goals (first | go_big_quiet_skip | (go_big_quiet_want; go_big_quiet_op; first | go_big_quiet_on | go_big_quiet_call (fail)) | quiet_step (fail) | (refine wpQuiet_step (fun K hK => ?_); go_simp; split <;> (refine hK _ ?_; clear hK K))))
       all_goals (refine wpQuiet_nil ?_; intro _ hw'; obtain ⟨u', hw''⟩ := hw'; subst hw''; obtain ⟨wd, hbd⟩ := u'; simp only [After.val_mk]))
      have ld := later hbd
      have hbd0 : Below w0.heap.size w0 wd := hbw.trans (hbd.mono hbw.size)
      clear hbd
      have lwd : Later w wd := inferInstance
      have Hp := hide (putN_ins Hk.out (fun z hz => by rw [List.getElem?_eq_none (by omega)] at hz; cases hz))
      have hdr : l.drop l.length = [] := List.drop_length
      clear Hk Hlo
      go_upto_region 5 with (at_builtin; refine wpList_appE rfl (.tmp 29) (.tmp 31) rfl NodeE.enc nodeT _ _ l rfl rfl (HL _).s (by omega) (by unfold maxLen; omega) ?_; intro A7 c7 w7 ho7 hm7 hb7; have l7 := later hb7)
      have hbw7 : Below w.heap.size w w7 := below_of
      have hc7 : c7 ≤ maxLen := hm7
      have hc7l : l.length ≤ c7 := (ho7.at_ NodeE.enc).2.1
      have H7 : NodesAt w7 A7 l := ⟨(ho7.at_ NodeE.enc).2.2, fun m hm => (H.f m hm).below hbw7, H.c⟩
      have l77 : Later w7 w7 := Later.refl
      have HL7 : ∀ u [Later w7 u], SlAt NodeE.cells 5 u A7 l := fun u i => H7.s.below i.below
      clear H7 ho7
      rcases A7 with _ | ad
      all_goals
        go_upto_region 5 with fail
        (refine wp_region_after (by kernel_rfl) (by kernel_rfl) ?_
         repeat (any_goals (first | go_big_quiet_skip | (go_big_quiet_want; go_big_quiet_op; first | go_big_quiet_on | go_big_quiet_call (fail)) | quiet_step (fail) | (refine wpQuiet_step (fun K hK => ?_); go_simp; split <;> (refine hK _ ?_; clear hK K))))
         all_goals (refine wpQuiet_nil ?_; intro _ hw'; obtain ⟨u', hw''⟩ := hw'; subst hw''; obtain ⟨wd, hbd⟩ := u'; simp only [After.val_mk]))
        have ld := later hbd
        go_upto_region 9 with fail
        refine wp_name ?_
        intro wz hwz
        have lz := later_name' hwz (inferInstance : Later w0 _)
        have lz7 := later_name' hwz (inferInstance : Later w7 _)
        have hzb : w.heap.size + 1 < wz.heap.size := Nat.lt_of_lt_of_le (blk_lt (B1 w0).1) (lz w0).below.size
        have hzb2 : w.heap.size + 1 + 1 < wz.heap.size := Nat.lt_of_lt_of_le (blk_lt (B2 w0).1) (lz w0).below.size
        have hk0 : (0 : Int) ≤ (l.length : Int) := by omega
        have hkc : (l.length : Int) ≤ (c7 : Int) := by omega
        have hkl : (l.length : Int) ≤ (l.length : Int) := by omega
        have q0 := blk_cell (B1 wz).1 0
        have q1 := blk_cell (B1 wz).1 1
        have q2 := blk_cell (B1 wz).1 2
        have q3 := blk_cell (B1 wz).1 3
        have q4 := blk_cell (B1 wz).1 4
        simp at q0 q1 q2 q3 q4
        clear hwz
        have htk : (l.take l.length).length = l.length := by rw [List.length_take]; omega
        have hdk : (l.drop l.length).length = l.length - l.length := by rw [List.length_drop]
        go_region_held3 (fun w' => w'.cell? ⟨w.heap.size + 1, 0, none⟩ = some (.int .i64 n.iDMachine) ∧ w'.cell? ⟨w.heap.size + 1, 1, none⟩ = some (.int .i64 n.iDSerial) ∧ w'.cell? ⟨w.heap.size + 1, 2, none⟩ = some (.int .i64 n.kind) ∧ w'.cell? ⟨w.heap.size + 1, 3, none⟩ = some (.int .i64 n.clas) ∧ w'.cell? ⟨w.heap.size + 1, 4, none⟩ = some (.slice n.A n.fields.length n.c)) (first | go_keep)
          ((first
            | (have ho9 := ho2
               refine step_app (P := Tryz.prog) rfl (.tmp 70) (.tmp 73) (by rfl) NodeE.enc nodeT _ _ ([] : List NodeE) (l.take l.length ++ [n]) (.slice A2 (l.length + 1) c2) (by rfl) (by rfl) (m := 0) (n := l.length + 1) rfl (by simp only [List.length_append, htk, List.length_singleton] <;> omega) (ho2.later _) SlAt.nil (by omega) (by simp [maxLen]; omega) (by first | (simp; done) | (simp; omega) | omega) ?_
               intro A3 c3 w3 ho3 hm3 hb3 hg3
               have l3 := later_base (W := wz) hb3
               have hz3 : wz.heap.size ≤ w3.heap.size := (l3 wz).below.size
               have p0 := blk_cell (B1 w3).1 0
               have p1 := blk_cell (B1 w3).1 1
               have p2 := blk_cell (B1 w3).1 2
               have p3 := blk_cell (B1 w3).1 3
               have p4 := blk_cell (B1 w3).1 4
               simp at p0 p1 p2 p3 p4)
            | (refine step_app rfl (.tmp 67) (.tmp 69) (by rfl) NodeE.enc nodeT _ _ [n] (l.take l.length) _ (by rfl) (by rfl) (m := 1) (n := l.length + 1) rfl (by rw [htk]) (ho1.later _) (blk_slAt NodeE.enc (fr := (0, 0)) (e := 41) (by first | (exact (by (simp only [heap_drew, heap_alloc_if, World.size_alloc]); (repeat (first | rw [if_pos rfl] | rw [if_neg (by omega)] | rw [if_pos (by omega)])); try rfl)) | (refine (hgh _ (by first | (simp; done) | (simp; omega) | omega) (by simp [Value.ownBlock] <;> omega)).trans (by (simp only [heap_drew, heap_alloc_if, World.size_alloc]); (repeat (first | rw [if_pos rfl] | rw [if_neg (by omega)] | rw [if_pos (by omega)])); try rfl))) [n] (by rfl)) (by omega) (by simp [maxLen]; omega) (by first | (simp; done) | (simp; omega) | omega) ?_
               intro A2 c2 w2 ho2 hm2 hb2 hg2
               have l2 := later_base (W := wz) hb2
               have hz2 : wz.heap.size ≤ w2.heap.size := (l2 wz).below.size
               have p0 := blk_cell (B1 w2).1 0
               have p1 := blk_cell (B1 w2).1 1
               have p2 := blk_cell (B1 w2).1 2
               have p3 := blk_cell (B1 w2).1 3
               have p4 := blk_cell (B1 w2).1 4
               simp at p0 p1 p2 p3 p4)
            | (refine step_app rfl (.tmp 63) (.tmp 66) (by rfl) NodeE.enc nodeT _ _ (l.take l.length) ([] : List NodeE) (.slice (some ⟨_, 0, none⟩) 0 0) (by rfl) (by rfl) htk (Nat.zero_add _) (Own.empty_blk (base := wz.heap.size) (by first | (simp; done) | (simp; omega) | omega) (by (simp only [heap_drew, heap_alloc_if, World.size_alloc]); (repeat (first | rw [if_pos rfl] | rw [if_neg (by omega)] | rw [if_pos (by omega)])); try rfl)) ((HL7 _).take _) (by omega) (by simp [maxLen]; omega) (by first | (simp; done) | (simp; omega) | omega) ?_
               intro A1 c1 w1 ho1 hm1 hb1 hg1
               obtain ⟨-, -, -, -, hgh⟩ := hg1
               have l1 := later_base (W := wz) hb1
               have hz1 : wz.heap.size ≤ w1.heap.size := (l1 wz).below.size
               have p0 := blk_cell (B1 w1).1 0
               have p1 := blk_cell (B1 w1).1 1
               have p2 := blk_cell (B1 w1).1 2
               have p3 := blk_cell (B1 w1).1 3
               have p4 := blk_cell (B1 w1).1 4
               simp at p0 p1 p2 p3 p4)
            | fail))
        all_goals go_wp2_with fail
        all_goals
          have rb := blk_cell (blk_set (B2 w3).1 0 (.slice A3 (l.length + 1) c3)) 0
          simp at rb
          have hbf : Below w.heap.size w (w3.setCell ⟨w.heap.size + 1 + 1, 0, none⟩ (.slice A3 (l.length + 1) c3)) := (below_of (b := w) (w := w3)).setCell (p := ⟨w.heap.size + 1 + 1, 0, none⟩) (by simp; omega) _
          refine bodyPost_ret (v := .tuple #[.agg #[.slice A3 (l.length + 1) c3], .bool true]) (by simp [results, Tryz.results90, go_sem, rb]) rfl ?_
          exact putG_new Hp (Nat.le_refl _) (by rw [hdr]; exact ho3) hzb2 H hn hnc hbf
end Go.Proofs.YtpkfenlfgdbkcaaGreatDoor

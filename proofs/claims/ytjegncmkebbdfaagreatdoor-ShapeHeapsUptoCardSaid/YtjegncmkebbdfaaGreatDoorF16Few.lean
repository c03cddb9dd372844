/-
  Contracts of the functions of this seat that each theorem names: what a call returns, and that it writes nothing that was there before. The conditions stand in each theorem.
-/
import Derived.Test.YtjegncmkebbdfaaGreatDoorGrp30
set_option linter.unusedSimpArgs false
set_option linter.unusedVariables false
namespace Go.Proofs.YtjegncmkebbdfaaGreatDoor
open Go.RowKit
attribute [local go_sem ↓] run_eql_id run_neq_id
attribute [local simp] heap_drew
/-- A graph: its nodes lie at A. -/
structure GrE where
  A : Option Addr
  c : Nat
  l : List NodeE
def GrE.cells (g : GrE) : List Value := [.slice g.A g.l.length g.c]
abbrev GrE.v (g : GrE) : Value := .agg #[.slice g.A g.l.length g.c]
theorem GrE.enc : Enc GrE.cells 1 := ⟨fun _ => rfl, fun x u hu => by simp only [GrE.cells, List.mem_cons, List.not_mem_nil, or_false] at hu; subst hu; rfl, by decide⟩
structure GraphsAt (w : World) (A : Option Addr) (gs : List GrE) : Prop where
  s : SlAt GrE.cells 1 w A gs
  n : ∀ g ∈ gs, NodesAt w g.A g.l
theorem GraphsAt.below {w w' : World} {A : Option Addr} {gs : List GrE} (h : GraphsAt w A gs) (hb : Below w.heap.size w w') : GraphsAt w' A gs := ⟨h.s.below hb, fun g hg => (h.n g hg).below hb⟩
theorem GraphsAt.later {w : World} {A : Option Addr} {gs : List GrE} (h : GraphsAt w A gs) : ∀ u [Later w u], GraphsAt u A gs := fun _ i => h.below i.below
theorem GraphsAt.get {w : World} {A : Option Addr} {gs : List GrE} (h : GraphsAt w A gs) {k : Nat} (hk : k < gs.length) : ∃ b o g, A = some ⟨b, o, none⟩ ∧ gs[k]? = some g ∧ (∀ u [Later w u], u.cell? ⟨b, o + k, none⟩ = some (.slice g.A g.l.length g.c)) ∧ ∀ u [Later w u], NodesAt u g.A g.l := by
  obtain ⟨b, o, g, hA, _, hg, hc⟩ := h.s.at_ hk
  refine ⟨b, o, g, hA, hg, fun u i => ?_, fun u i => (h.n g (List.mem_of_getElem? hg)).below i.below⟩
  have := cell_below (hc 0 _ rfl) i.below
  simpa using this
def cntG (l : List NodeE) : Nat := l.length + fieldsN (conL l)
def totG (gs : List GrE) : Nat := (gs.map fun g => cntG g.l).sum
theorem cntG_take {l : List NodeE} {k : Nat} {n : NodeE} (h : l[k]? = some n) : cntG (l.take (k + 1)) = cntG (l.take k) + (1 + n.fields.length) := by
  have hlt := (List.getElem?_eq_some_iff.1 h).1
  unfold cntG fieldsN conL
  rw [List.take_add_one, h]
  simp only [Option.toList_some, List.map_append, List.map_cons, List.map_nil, List.sum_append, List.sum_cons, List.sum_nil, List.length_append, List.length_cons, List.length_nil, NodeE.con]
  omega
theorem cntG_take_le (l : List NodeE) (k : Nat) : cntG (l.take k) ≤ cntG l := by
  have h : cntG l = cntG (l.take k) + cntG (l.drop k) := by
    have e : l = l.take k ++ l.drop k := (List.take_append_drop k l).symm
    unfold cntG fieldsN conL
    conv => lhs; rw [e]
    simp only [List.map_append, List.sum_append, List.length_append]
    omega
  omega
theorem cntG_len (l : List NodeE) : l.length ≤ cntG l := by unfold cntG; omega
theorem cntG_field {l : List NodeE} {n : NodeE} (h : n ∈ l) : n.fields.length ≤ cntG l := by
  have h1 : n.con ∈ conL l := List.mem_map.2 ⟨n, h, rfl⟩
  have h2 := fieldsN_le h1
  have h3 : n.con.fields.length = n.fields.length := rfl
  unfold cntG
  omega
theorem totG_take {gs : List GrE} {k : Nat} {g : GrE} (h : gs[k]? = some g) : totG (gs.take (k + 1)) = totG (gs.take k) + cntG g.l := by
  unfold totG
  rw [List.take_add_one, h]
  simp
theorem totG_take_le (gs : List GrE) (k : Nat) : totG (gs.take k) ≤ totG gs := by
  have e : gs = gs.take k ++ gs.drop k := (List.take_append_drop k gs).symm
  unfold totG
  conv => rhs; rw [e]
  rw [List.map_append, List.sum_append]
  omega
theorem totG_mem {gs : List GrE} {g : GrE} (h : g ∈ gs) : cntG g.l ≤ totG gs := by
  unfold totG
  induction gs with
  | nil => cases h
  | cons x gs ih =>
    rw [List.map_cons, List.sum_cons]
    rcases List.mem_cons.1 h with rfl | h
    · omega
    · have := ih h; omega
set_option maxRecDepth 100000 in
set_option maxHeartbeats 4000000 in
theorem few_any (A : Option Addr) (c : Nat) (gs : List GrE) (w : World) (H : GraphsAt w A gs) (hl : gs.length ≤ 1000000000) (ht : totG gs ≤ 1000000000) :
    Calls Tryz.prog 6 #[.slice A gs.length c] w fun r w' => r = .returned (.bool (decide (totG gs ≤ 200))) ∧ Below w.heap.size w w' := by
  have HL := H.later
  have hl' : gs.length ≤ 9223372036854775807 := by omega
  obtain ⟨R, hR⟩ : ∃ R, R = decide (totG gs ≤ 200) := ⟨_, rfl⟩
  rw [← hR]
  have HR := hide hR
  clear hR
  go_enter Tryz.func6, Tryz.ntmps6
  go_wp2_with fail
  go_loopw [3, 10] (fun nv iv wr => ∃ (k m : Nat), k ≤ gs.length ∧ nv = .int .i64 m ∧ iv = .int .i64 k ∧ Hid (m = totG (gs.take k)) ∧ Below w.heap.size w wr) (fun _ iv _ => gs.length - (intOf iv).toNat)
  case atStart => exact ⟨0, 0, by omega, rfl, rfl, hide rfl, Below.refl _ _⟩
  case round =>
    obtain ⟨k, m, hk, rfl, rfl, hm, hbr⟩ := hrel
    have lr := later hbr
    have lrr : Later wr wr := Later.refl
    have hmt := totG_take_le gs k
    rw [← hm.out] at hmt
    by_cases hlt : k < gs.length
    · have hki : (k : Int) < (gs.length : Int) := by omega
      obtain ⟨b1, o1, g, rfl, hg, C1, N1⟩ := (HL wr).get hlt
      have hgm := hide (totG_take hg)
      have hgt := totG_mem (List.mem_of_getElem? hg)
      have hgl := cntG_len g.l
      have hgx : m + cntG g.l ≤ totG gs := by rw [hm.out, ← hgm.out]; exact totG_take_le gs (k + 1)
      clear hg
      obtain ⟨gA, gc, gl⟩ := g
      dsimp only at C1 N1 hgm hgt hgl hgx
      have hgl2 : gl.length ≤ 9223372036854775807 := by omega
      go_upto_region 5 with fail
      refine wp_name ?_
      intro w5 hw5
      obtain ⟨B5, l5⟩ := box1 hw5
      have l55 : Later w5 w5 := Later.refl
      have hb5 : Below w.heap.size w w5 := (l5 w).below
      clear hw5
      have N5 : ∀ u [Later w5 u], NodesAt u gA gl := fun u i => by haveI := (l5 wr).trans i; exact N1 u
      clear N1
      go_wp2_with fail
      go_loopw [3, 17] (fun nv jv wr => ∃ (j p : Nat), j ≤ gl.length ∧ nv = .int .i64 p ∧ jv = .int .i64 j ∧ Hid (p = m + cntG (gl.take j)) ∧ Below w5.heap.size w5 wr) (fun _ jv _ => gl.length - (intOf jv).toNat)
      case atStart => exact ⟨0, m, by omega, rfl, rfl, hide (by rfl), Below.refl _ _⟩
      case round =>
        obtain ⟨j, p, hj, rfl, rfl, hp, hbj⟩ := hrel
        have lj := later hbj
        have ljj : Later wr wr := Later.refl
        by_cases hjt : j < gl.length
        · have hji : (j : Int) < (gl.length : Int) := by omega
          obtain ⟨b2, o2, n, rfl, hn, D1, -, -, -⟩ := (N5 wr).get hjt
          have hnx := hide (cntG_take hn)
          have hle := cntG_take_le gl (j + 1)
          have hpb : p + (1 + n.fields.length) ≤ 1000000000 := by rw [hp.out]; rw [hnx.out] at hle; omega
          have hp0 : p ≤ 1000000000 := by omega
          clear hn hle
          go_wp2_with fail
          go_roundw
          case rel => exact ⟨j + 1, p + (1 + n.fields.length), by omega, by simp, by go_num, hide (by rw [hp.out, hnx.out]; omega), below_of⟩
          case measure => simp [intOf]; omega
        · have hjj : j = gl.length := by omega
          subst hjj
          have hpe := hide (show p = m + cntG gl by rw [hp.out, List.take_length])
          go_wp2_with fail
          go_roundw
          case rel => exact ⟨k + 1, p, by omega, rfl, by go_num, hide (by rw [hpe.out, hgm.out, hm.out]), below_of⟩
          case measure => simp [intOf]; omega
    · have hkk : k = gs.length := by omega
      subst hkk
      have hme : m = totG gs := by rw [hm.out, List.take_length]
      have hr := hide (show R = decide (m ≤ 200) by rw [HR.out, hme])
      have hmm : m ≤ 1000000000 := by omega
      clear hm hme
      go_wp2_with fail
      go_ret
      exact ⟨ret_bool (by rw [hr.out]; simp; omega), below_of⟩
end Go.Proofs.YtjegncmkebbdfaaGreatDoor

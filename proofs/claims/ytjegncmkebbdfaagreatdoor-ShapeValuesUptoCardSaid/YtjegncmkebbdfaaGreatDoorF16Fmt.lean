/-
  Contracts of the functions of this seat that each theorem names: what a call returns, and that it writes nothing that was there before. The conditions stand in each theorem.
-/
import Derived.Test.YtjegncmkebbdfaaGreatDoorF16Text
import Derived.Test.YtjegncmkebbdfaaGreatDoorGrp32
set_option linter.unusedSimpArgs false
set_option linter.unusedVariables false
namespace Go.Proofs.YtjegncmkebbdfaaGreatDoor
open Go.RowKit
attribute [local go_sem ↓] run_eql_id run_neq_id
attribute [local simp] heap_drew
/-- A string of a list. -/
def strC (x : List UInt8) : List Value := [.string (bs x)]
theorem strC.enc : Enc strC 1 := ⟨fun _ => rfl, fun x u hu => by simp only [strC, List.mem_cons, List.not_mem_nil, or_false] at hu; subst hu; rfl, by decide⟩
theorem strT : ElemT Tryz.prog 58 9 1 16 := ElemT.mk' (z := .string ⟨#[]⟩) Tryz.underlying58 (by kernel_rfl) rfl
theorem I64ok.of {n : Int} (h : -4611686018427387904 ≤ n) (h' : n ≤ 4611686018427387904) : I64ok n := ⟨by omega, by omega⟩
theorem idOk_of {x : IDE} (h : validIDB x = true) : idOk x := by
  have := of_decide_eq_true h
  exact ⟨I64ok.of (by omega) (by omega), I64ok.of (by omega) (by omega)⟩
theorem valOk_of {v : ValE} (h : validValB v = true) : valOk v := by
  unfold validValB at h
  split at h
  · have := ValE.beq_iff.1 h
    subst this
    exact ⟨I64ok.of (by decide) (by decide), ⟨I64ok.of (by decide) (by decide), I64ok.of (by decide) (by decide)⟩⟩
  · split at h
    · rw [Bool.and_eq_true] at h
      have h1 := of_decide_eq_true h.1
      have h2 := of_decide_eq_true h.2
      refine ⟨I64ok.of (by omega) (by omega), ?_⟩
      unfold idOk
      rw [h1]
      exact ⟨I64ok.of (by decide) (by decide), I64ok.of (by decide) (by decide)⟩
    · split at h
      · rw [Bool.and_eq_true] at h
        have h1 := of_decide_eq_true h.1
        exact ⟨by rw [h1]; exact I64ok.of (by decide) (by decide), idOk_of h.2⟩
      · cases h
theorem nameB_len {x : IDE} (h : idOk x) : (nameB x).length ≤ 44 := by
  have z1 := Lib.itoa_length_le x.machine h.1.1 h.1.2
  have z2 := Lib.itoa_length_le x.serial h.2.1 h.2.2
  unfold nameB
  simp only [List.length_cons, List.length_append]
  omega
theorem textB_len {v : ValE} (h : valOk v) : (textB v).length ≤ 44 := by
  unfold textB
  split
  · have := Lib.itoa_length_le v.int h.1.1 h.1.2; omega
  · split
    · exact nameB_len h.2
    · simp
theorem kindNm_len (k : Int) : (kindNmB k).length ≤ 7 := by
  unfold kindNmB
  repeat' split
  all_goals simp
theorem lens_le {r : List (List UInt8)} (h : ∀ x ∈ r, x.length ≤ 44) : Lib.lens r ≤ 44 * r.length := by
  induction r with
  | nil => simp [Lib.lens]
  | cons x r ih =>
    have h1 := ih fun y hy => h y (List.mem_cons_of_mem _ hy)
    have h2 := h x List.mem_cons_self
    unfold Lib.lens at h1 ⊢
    rw [List.map_cons, List.sum_cons, List.length_cons]
    omega
theorem join_len {r : List (List UInt8)} (h : ∀ x ∈ r, x.length ≤ 44) : (Lib.join r [44, 32]).length ≤ 46 * r.length := by
  cases r with
  | nil => rw [Lib.join_nil]; simp
  | cons x r =>
    have h1 := lens_le fun y hy => h y (List.mem_cons_of_mem x hy)
    have h2 := h x List.mem_cons_self
    rw [Lib.join_cons, List.length_append, Lib.joinTail_length]
    simp only [List.length_cons, List.length_nil]
    omega
theorem validNode_more {n : NodeC} (h : validNodeB n = true) : validIDB n.id = true ∧ I64ok n.clas ∧ n.fields.length ≤ 30 := by
  unfold validNodeB at h
  rw [Bool.and_eq_true, Bool.and_eq_true] at h
  obtain ⟨⟨h1, h2⟩, h3⟩ := h
  refine ⟨h2, ?_⟩
  unfold kindB at h3
  split at h3
  · have := of_decide_eq_true h3
    exact ⟨I64ok.of (by omega) (by omega), by omega⟩
  · split at h3
    · rw [Bool.and_eq_true] at h3
      have := of_decide_eq_true h3.1
      exact ⟨I64ok.of (by omega) (by omega), by omega⟩
    · split at h3
      · have := of_decide_eq_true h3
        exact ⟨I64ok.of (by omega) (by omega), by omega⟩
      · cases h3
theorem cat_run (x y : List UInt8) (h : x.length + y.length ≤ 1000000) (u : World) : (Op.stringOp .add (bs x) (bs y)).run Tryz.prog u = .ok (.string (bs (x ++ y))) u := by
  rw [← bs_add]; exact run_string_add_sum u _ _ (by rw [bs_size, bs_size]; omega)
/-- The parts of a line, as they are put together. -/
theorem line_parts (n : NodeC) (hn : validNodeB n = true) : ∃ C1 C2 C3 C4 C5 C6 C7 : ByteArray,
    (∀ u : World, (Op.stringOp .add (bs (nameB n.id)) ⟨#[32]⟩).run Tryz.prog u = .ok (.string C1) u) ∧ (∀ u : World, (Op.stringOp .add C1 (bs (kindNmB n.kind))).run Tryz.prog u = .ok (.string C2) u) ∧
    (∀ u : World, (Op.stringOp .add C2 ⟨#[32]⟩).run Tryz.prog u = .ok (.string C3) u) ∧ (∀ u : World, (Op.stringOp .add C3 (bs (Lib.itoa n.clas))).run Tryz.prog u = .ok (.string C4) u) ∧
    (∀ u : World, (Op.stringOp .add ⟨#[32, 40]⟩ (bs (Lib.join (n.fields.map textB) [44, 32]))).run Tryz.prog u = .ok (.string C5) u) ∧ (∀ u : World, (Op.stringOp .add C5 ⟨#[41]⟩).run Tryz.prog u = .ok (.string C6) u) ∧
    (∀ u : World, (Op.stringOp .add C4 C6).run Tryz.prog u = .ok (.string C7) u) ∧ Hid (n.kind = 3 → C4 = bs (lineB n)) ∧ Hid (n.kind ≠ 3 → C7 = bs (lineB n)) ∧ (Lib.join (n.fields.map textB) [44, 32]).length ≤ 2000 := by
  obtain ⟨m1, m2, m3⟩ := validNode_more hn
  have k3 := (validNode_kind hn).2.2
  have z1 := nameB_len (idOk_of m1)
  have z2 := kindNm_len n.kind
  have z3 := Lib.itoa_length_le n.clas m2.1 m2.2
  have z4 : (Lib.join (n.fields.map textB) [44, 32]).length ≤ 2000 := by
    have := join_len (r := n.fields.map textB) fun x hx => by
      obtain ⟨v, hv, rfl⟩ := List.mem_map.1 hx
      exact textB_len (valOk_of (k3 v hv))
    rw [List.length_map] at this
    omega
  refine ⟨bs (nameB n.id ++ [32]), bs (nameB n.id ++ [32] ++ kindNmB n.kind), bs (nameB n.id ++ [32] ++ kindNmB n.kind ++ [32]), bs (nameB n.id ++ [32] ++ kindNmB n.kind ++ [32] ++ Lib.itoa n.clas), bs ([32, 40] ++ Lib.join (n.fields.map textB) [44, 32]), bs ([32, 40] ++ Lib.join (n.fields.map textB) [44, 32] ++ [41]), bs (nameB n.id ++ [32] ++ kindNmB n.kind ++ [32] ++ Lib.itoa n.clas ++ ([32, 40] ++ Lib.join (n.fields.map textB) [44, 32] ++ [41])), fun u => cat_run _ [32] ?_ u, fun u => cat_run _ _ ?_ u, fun u => cat_run _ [32] ?_ u, fun u => cat_run _ _ ?_ u, fun u => cat_run [32, 40] _ ?_ u, fun u => cat_run _ [41] ?_ u, fun u => cat_run _ _ ?_ u, hide fun hk => ?_, hide fun hk => ?_, z4⟩
  any_goals (simp only [List.length_append, List.length_cons, List.length_nil]; omega)
  · unfold lineB; rw [if_pos hk]; simp
  · unfold lineB; rw [if_neg hk]; simp
theorem joinS_any (A : Option Addr) (c : Nat) (xs : List (List UInt8)) (sep : List UInt8) {b : Nat} (w : World) (ho : Own strC 1 9 b w (.slice A xs.length c) xs) (hl : xs.length ≤ 1000000) (hj : (Lib.join xs sep).length ≤ 1000000) :
    Calls Tryz.prog 55 #[.slice A xs.length c, .string (bs sep)] w fun r w' => r = .returned (.string (bs (Lib.join xs sep))) ∧ Below w.heap.size w w' := by
  obtain ⟨_, hc, hs⟩ := ho.at_ strC.enc
  cases xs with
  | nil =>
    refine (Tryz.strings_Join_none A c (bs sep) w).mono fun e w' ⟨h1, h2⟩ => ⟨h1, by rw [h2]; exact Below.refl _ _⟩
  | cons x r =>
    obtain ⟨bk, o, y, rfl, hb, _, _⟩ := hs.at_ (k := 0) (by simp)
    have hmap : ((x :: r).map bs).map (·.data.toList) = x :: r := by
      rw [List.map_map]
      have : ((fun b : ByteArray => b.data.toList) ∘ bs) = id := rfl
      rw [this, List.map_id]
    have h := Tryz.strings_Join bk o c ((x :: r).map bs) (bs sep) w (fun j s hjs => by
      rw [List.getElem?_map] at hjs
      cases hx : (x :: r)[j]? with
      | none => rw [hx] at hjs; cases hjs
      | some z =>
        rw [hx] at hjs
        injection hjs with hjs
        subst hjs
        obtain ⟨bk', o', y', e, _, hy, hcell⟩ := hs.at_ (List.getElem?_eq_some_iff.1 hx).1
        injection e with e
        injection e with e1 e2
        subst e1 e2
        rw [hx] at hy
        injection hy with hy
        subst hy
        have := hcell 0 _ rfl
        simpa using this) hb (by rw [List.length_map]; omega) (by rw [List.length_map]; exact hc) (by rw [hmap]; show (Lib.join (x :: r) sep).length ≤ _; omega)
    rw [hmap, List.length_map] at h
    exact h
def FmtPost (L : List NodeC) (w : World) (r : Ending) (w' : World) : Prop := ∃ o A c, Hid (o = linesB L) ∧ r = .returned (.slice A o.length c) ∧ Own strC 1 9 w.heap.size w' (.slice A o.length c) o ∧ Below w.heap.size w w'
end Go.Proofs.YtjegncmkebbdfaaGreatDoor

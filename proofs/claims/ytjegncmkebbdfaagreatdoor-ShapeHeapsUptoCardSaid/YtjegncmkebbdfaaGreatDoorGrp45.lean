/-
  Small texts of this seat, put into one. Conditions stand in each theorem.
-/
import Derived.Test.YtjegncmkebbdfaaGreatDoorGrpA
import Derived.ProofKit
import Derived.SizedLaws
import Derived.Deep.Slices
import Derived.Test.YtjegncmkebbdfaaGreatDoorRows
set_option linter.unusedSimpArgs false
set_option linter.unusedVariables false
namespace Go.Proofs.YtjegncmkebbdfaaGreatDoor
open Go.RowKit Go.ChangeShapes Go.WideShapes Go.Deep

def Opens (P : Program) (t : TypeId) {α : Type} (f : α → List Value) (G : World → α → Prop) : Prop :=
  ∀ (H : Type) (enc : TypeId × Value → H) (w : World) (fuel : Nat) (cs : List Value) (x : DataW H × List MemPlace), DataW.trod enc P w 0 (fun _ => true) true fuel t cs = some x →
    (∀ n ∈ x.1.weights P t, n ≤ reachBytes) → ∃ a, cs = f a ∧ G w a

section
variable {P : Program}
theorem opens_int {t : TypeId} {k : IntKind} (ht : P.underlying t = some (.int k)) : Opens P t (fun n : Int => [.int k n]) (fun _ n => (Lit.int k n).wf = true) := fun H enc w fuel cs x h _ => by
  obtain ⟨n, hc, _, hw⟩ := DataW.trod_int ht h
  exact ⟨n, hc, hw⟩
theorem opens_bool {t : TypeId} (ht : P.underlying t = some .bool) : Opens P t (fun b : Bool => [.bool b]) (fun _ _ => True) := fun H enc w fuel cs x h _ => by
  obtain ⟨b, hc, _⟩ := DataW.trod_bool ht h
  exact ⟨b, hc, trivial⟩

/-- A slice's value, its list. -/
structure SlV (α : Type) where
  A : Option Addr
  c : Nat
  l : List α
def SlV.cells {α : Type} (x : SlV α) : List Value := [.slice x.A x.l.length x.c]
theorem opens_slice {t e : TypeId} {α : Type} [Inhabited α] {f : α → List Value} {G : World → α → Prop} {s bytes : Nat} (ht : P.underlying t = some (.slice e)) (hC : P.cellsOf e = s) (hb : P.bytesOf e = bytes) (he : Opens P e f G) (hs : 0 < s) (hf : ∀ a, (f a).length = s) :
    Opens P t (fun x : SlV α => [.slice x.A x.l.length x.c]) (fun w x => SlAt f s w x.A x.l ∧ x.l.length * bytes ≤ reachBytes ∧ x.l.length ≤ x.c ∧ x.c ≤ maxLen ∧ ∀ a ∈ x.l, G w a) := fun H enc w fuel cs x h hw => by
  rcases open_slice ht h with ⟨rfl, rfl⟩ | ⟨a, len, cap, m, n, D, Pl, rfl, _, hl, hm, hmm, rfl, hx⟩
  · exact ⟨⟨none, 0, []⟩, rfl, SlAt.nil, by simp, by simp, by simp, by simp⟩
  · simp only [if_true] at hmm
    subst hmm
    have hw1 : ∀ n ∈ DataW.weights P t (.slice ((List.range len).map D) ((List.range (m - len)).map fun j => D (len + j))), n ≤ reachBytes := hw
    have hwe : DataW.weights P t (.slice ((List.range len).map D) ((List.range (m - len)).map fun j => D (len + j))) = (((List.range len).map D).length + ((List.range (m - len)).map fun j => D (len + j)).length) * P.bytesOf e :: (DataW.weightsAll P e ((List.range len).map D) ++ DataW.weightsAll P e ((List.range (m - len)).map fun j => D (len + j))) := by
      rw [DataW.weights, ht]
    rw [hwe] at hw1
    have hall : ∀ (l : List (DataW H)) (d : DataW H), d ∈ l → ∀ n ∈ d.weights P e, n ∈ DataW.weightsAll P e l := by
      intro l
      induction l with
      | nil => intro d hd; cases hd
      | cons y l ih =>
        intro d hd n hn
        rw [DataW.weightsAll]
        rcases List.mem_cons.1 hd with rfl | hd
        · exact List.mem_append_left _ hn
        · exact List.mem_append_right _ (ih d hd n hn)
    have hel : ∀ i, i < len → ∃ y : α, (∃ cs', w.cells? 0 (a.add (i * s)) s = some cs' ∧ cs' = f y) ∧ G w y := fun i hi => by
      obtain ⟨cs', h1, h2⟩ := hx i (by omega)
      rw [hC] at h1
      obtain ⟨y, hy, hg⟩ := he H enc w n cs' (D i, Pl i) h2 (fun k hk => hw1 k (List.mem_cons_of_mem _ (List.mem_append_left _ (hall _ (D i) (List.mem_map.2 ⟨i, List.mem_range.2 hi, rfl⟩) k hk))))
      exact ⟨y, ⟨cs', h1, hy⟩, hg⟩
    obtain ⟨Y, hY⟩ := choose_lt hel
    have hbytes : len * bytes ≤ reachBytes := by
      have := hw1 _ (List.mem_cons_self ..)
      simp only [List.length_map, List.length_range] at this
      rw [hb] at this
      exact Nat.le_trans (Nat.mul_le_mul_right _ (by omega)) this
    refine ⟨⟨some a, m, (List.range len).map Y⟩, by simp, ?_, by simpa using hbytes, by simpa using hl, hm, fun y hy => ?_⟩
    · intro hne
      have hlen0 : 0 < len := by
        rcases Nat.eq_zero_or_pos len with h0 | h0
        · subst h0; exact absurd rfl hne
        · exact h0
      have hcell : ∀ i, i < len → ∀ j u, (f (Y i))[j]? = some u → w.cell? ((a.add (i * s)).add j) = some u := fun i hi j u hu => by
        obtain ⟨⟨cs', h1, rfl⟩, _⟩ := hY i hi
        obtain ⟨_, hl', hat⟩ := World.cells?_some h1
        rw [hat j (by rw [← hf (Y i)]; exact (List.getElem?_eq_some_iff.1 hu).1)]
        exact hu
      have h00 : (f (Y 0))[0]? = some ((f (Y 0))[0]'(by rw [hf]; exact hs)) := List.getElem?_eq_getElem _
      have hc0 := hcell 0 hlen0 0 _ h00
      have hspot : a.spot = none := by
        have := World.cell?_spot hc0
        simpa [Addr.add] using this
      obtain ⟨b, off, spot⟩ := a
      simp only at hspot
      subst hspot
      have hadd : ∀ j, (⟨b, off, none⟩ : Addr).add j = ⟨b, off + j, none⟩ := fun j => by unfold Addr.add; split <;> simp_all
      have hblt : b < w.heap.size := by
        have := World.block_lt_of_cell? w _ hc0
        simpa [Addr.add] using this
      refine ⟨b, off, rfl, hblt, fun k y hk j u hu => ?_⟩
      have hkl : k < len := by
        have := (List.getElem?_eq_some_iff.1 hk).1
        simpa using this
      have hyk : y = Y k := by
        simp [hkl] at hk
        exact hk.symm
      subst hyk
      have := hcell k hkl j u hu
      rw [add_add, hadd, ← Nat.add_assoc] at this
      exact this
    · obtain ⟨i, hi, rfl⟩ := List.mem_map.1 hy
      exact (hY i (List.mem_range.1 hi)).2
theorem field_opens {t : TypeId} {fs : Array Field} {H : Type} {enc : TypeId × Value → H} {w : World} {fuel : Nat} {cs : List Value} {x : DataW H × List MemPlace} (ht : P.underlying t = some (.struct fs)) (h : DataW.trod enc P w 0 (fun _ => true) true fuel t cs = some x)
    (hw : ∀ n ∈ x.1.weights P t, n ≤ reachBytes) (j : Nat) (fd : Field) (hj : fs[j]? = some fd) (off k : Nat) (hoff : fd.offset = off) (hk : P.cellsOf fd.type = k) {α : Type} {f : α → List Value} {G : World → α → Prop} (ho : Opens P fd.type f G) :
    ∃ a, (cs.drop off).take k = f a ∧ G w a := by
  subst hoff hk
  obtain ⟨xs, n, _, rfl, hlen, hxl, hf⟩ := DataW.trod_struct ht h
  have hjl : j < xs.length := by rw [hxl]; exact (Array.getElem?_eq_some_iff.1 hj).1
  have h1 := hf j fd hj
  rw [List.getElem?_eq_getElem hjl] at h1
  refine ho H enc w n _ _ h1 fun k hk => hw k ?_
  show k ∈ DataW.weights P t (.agg (xs.map (·.1)))
  rw [DataW.weights, ht]
  refine DataW.weights_mem_each (j := j) (t := fd.type) (d := xs[j].1) ?_ ?_ k hk
  · simp [hj]
  · simp [List.getElem?_eq_getElem hjl]
theorem struct_len {t : TypeId} {fs : Array Field} {H : Type} {enc : TypeId × Value → H} {w : World} {fuel : Nat} {cs : List Value} {x : DataW H × List MemPlace} (ht : P.underlying t = some (.struct fs)) (h : DataW.trod enc P w 0 (fun _ => true) true fuel t cs = some x) : cs.length = P.cellsOf t := by
  obtain ⟨xs, n, _, _, hlen, _, _⟩ := DataW.trod_struct ht h
  exact hlen
/-- An argument, out of its reading. -/
theorem Opens.arg {t : TypeId} {α : Type} {f : α → List Value} {G : World → α → Prop} (ho : Opens P t f G) {H : Type} {enc : TypeId × Value → H} {w : World} {v : Value} {d : DataW H} {p : List MemPlace} (h : DataW.Trod enc P w 0 (fun _ => true) true t v d p)
    (hw : ∀ n ∈ d.weights P t, n ≤ reachBytes) : ∃ a, v.cells.toList = f a ∧ G w a := by
  obtain ⟨fuel, hf⟩ := h
  exact ho H enc w fuel _ _ hf hw
end
end Go.Proofs.YtjegncmkebbdfaaGreatDoor

namespace Go.Proofs.YtjegncmkebbdfaaGreatDoor
open Go.RowKit Go.ChangeShapes Go.WideShapes Go.Deep
theorem openI {P : Program} {t : TypeId} {k : IntKind} (ht : P.underlying t = some (.int k)) {H : Type} {enc : TypeId × Value → H} {w : World} {v : Value} {d : DataW H} {p : List MemPlace} {r : Reach} {b0 : Nat} (hv : Value.okWide P w r b0 t v) (h : DataW.Trod enc P w 0 (fun _ => true) true t v d p)
    (hw : ∀ n ∈ d.weights P t, n ≤ reachBytes) : ∃ n : Int, v = .int k n ∧ (Lit.int k n).wf = true := by
  obtain ⟨n, rfl⟩ := okWide_int ht hv
  obtain ⟨m, e, g⟩ := (opens_int ht).arg h hw
  simp [Value.cells] at e
  subst e
  exact ⟨n, rfl, g⟩
theorem openB {P : Program} {t : TypeId} (ht : P.underlying t = some .bool) {H : Type} {enc : TypeId × Value → H} {w : World} {v : Value} {d : DataW H} {p : List MemPlace} {r : Reach} {b0 : Nat} (hv : Value.okWide P w r b0 t v) (_ : DataW.Trod enc P w 0 (fun _ => true) true t v d p)
    (_ : ∀ n ∈ d.weights P t, n ≤ reachBytes) : ∃ b : Bool, v = .bool b := okWide_bool ht hv
theorem wf_u8 {n : Int} (h : (Lit.int .u8 n).wf = true) : 0 ≤ n ∧ n ≤ 255 := by
  simp [Lit.wf, IntKind.min, IntKind.max, IntKind.signed, IntKind.bits] at h; omega
theorem wf_i64 {n : Int} (h : (Lit.int .i64 n).wf = true) : -9223372036854775808 ≤ n ∧ n ≤ 9223372036854775807 := by
  simp [Lit.wf, IntKind.min, IntKind.max, IntKind.signed, IntKind.bits] at h; omega
theorem wf_u64 {n : Int} (h : (Lit.int .u64 n).wf = true) : 0 ≤ n ∧ n ≤ 18446744073709551615 := by
  simp [Lit.wf, IntKind.min, IntKind.max, IntKind.signed, IntKind.bits] at h; omega
end Go.Proofs.YtjegncmkebbdfaaGreatDoor

namespace Go.Proofs.YtjegncmkebbdfaaGreatDoor
open Go.RowKit Go.ChangeShapes Go.WideShapes Go.Deep
theorem bulk_pos {H : Type} (d : DataW H) : 1 ≤ Rows.uptoBulk d := by
  cases d with
  | lit l => cases l <;> simp [Rows.uptoBulk]
  | nil => simp [Rows.uptoBulk]
  | ptr d => simp [Rows.uptoBulk]
  | slice elems spare => simp [Rows.uptoBulk]
  | agg parts => simp [Rows.uptoBulk]
  | iface t d => simp [Rows.uptoBulk]
  | map entries => simp [Rows.uptoBulk]
  | held h => simp [Rows.uptoBulk]
theorem bulk_part {H : Type} {d : DataW H} {l : List (DataW H)} (h : d ∈ l) : Rows.uptoBulk d ≤ Rows.uptoBulkAll l := by
  induction l with
  | nil => cases h
  | cons x r ih =>
    simp only [Rows.uptoBulkAll]
    cases List.mem_cons.1 h with
    | inl e => subst e; omega
    | inr e => have := ih e; omega
theorem sum_zero {α : Type} (l : List α) : (l.map fun _ => 0).sum = 0 := by
  induction l with
  | nil => rfl
  | cons x l ih => rw [List.map_cons, List.sum_cons, ih]
/-- The bulk of a struct's field. -/
def bulkAt {H : Type} (d : DataW H) (j : Nat) : Nat := match d with | .agg parts => (parts[j]?.map Rows.uptoBulk).getD 0 | _ => 0
theorem bulkAll_get {H : Type} (l : List (DataW H)) (n : Nat) : ((List.range n).map fun j => (l[j]?.map Rows.uptoBulk).getD 0).sum ≤ Rows.uptoBulkAll l := by
  induction l generalizing n with
  | nil =>
    have : ((List.range n).map fun j => ((([] : List (DataW H))[j]?).map Rows.uptoBulk).getD 0) = (List.range n).map fun _ => 0 := by simp
    rw [this, sum_zero]
    exact Nat.zero_le _
  | cons x r ih =>
    cases n with
    | zero => simp
    | succ n =>
      rw [List.range_succ_eq_map, List.map_cons, List.sum_cons, List.map_map]
      have := ih n
      have e : ((fun j => (((x :: r)[j]?).map Rows.uptoBulk).getD 0) ∘ Nat.succ) = fun j => ((r[j]?).map Rows.uptoBulk).getD 0 := by funext j; simp
      rw [e]
      simp only [Rows.uptoBulkAll, List.getElem?_cons_zero, Option.map_some, Option.getD_some]
      omega
theorem bulk_fields {H : Type} (d : DataW H) (n : Nat) : ((List.range n).map (bulkAt d)).sum ≤ Rows.uptoBulk d := by
  cases d with
  | agg parts =>
    have := bulkAll_get parts n
    simp only [Rows.uptoBulk]
    have e : (bulkAt (.agg parts)) = fun j => (parts[j]?.map Rows.uptoBulk).getD 0 := rfl
    rw [e]; omega
  | lit l => exact Nat.le_trans (Nat.le_of_eq (sum_zero (List.range n))) (Nat.zero_le _)
  | nil => exact Nat.le_trans (Nat.le_of_eq (sum_zero (List.range n))) (Nat.zero_le _)
  | ptr d => exact Nat.le_trans (Nat.le_of_eq (sum_zero (List.range n))) (Nat.zero_le _)
  | slice a b => exact Nat.le_trans (Nat.le_of_eq (sum_zero (List.range n))) (Nat.zero_le _)
  | iface a b => exact Nat.le_trans (Nat.le_of_eq (sum_zero (List.range n))) (Nat.zero_le _)
  | map a => exact Nat.le_trans (Nat.le_of_eq (sum_zero (List.range n))) (Nat.zero_le _)
  | held a => exact Nat.le_trans (Nat.le_of_eq (sum_zero (List.range n))) (Nat.zero_le _)
def OpensU (P : Program) (t : TypeId) {α : Type} (f : α → List Value) (G : World → α → Prop) (μ : α → Nat) : Prop :=
  ∀ (H : Type) (enc : TypeId × Value → H) (w : World) (fuel : Nat) (cs : List Value) (x : DataW H × List MemPlace), DataW.trod enc P w 0 (fun _ => true) true fuel t cs = some x →
    (∀ n ∈ x.1.weights P t, n ≤ reachBytes) → ∃ a, cs = f a ∧ G w a ∧ μ a ≤ Rows.uptoBulk x.1
section
variable {P : Program}
theorem Opens.u {t : TypeId} {α : Type} {f : α → List Value} {G : World → α → Prop} (h : Opens P t f G) : OpensU P t f G (fun _ => 1) := fun H enc w fuel cs x hx hw => by
  obtain ⟨a, h1, h2⟩ := h H enc w fuel cs x hx hw
  exact ⟨a, h1, h2, bulk_pos _⟩
theorem bulk_map {H : Type} {α : Type} (D : Nat → DataW H) (Y : Nat → α) (μ : α → Nat) (n : Nat) (h : ∀ i, i < n → μ (Y i) ≤ Rows.uptoBulk (D i)) : (((List.range n).map Y).map μ).sum ≤ Rows.uptoBulkAll ((List.range n).map D) := by
  have gen : ∀ (l : List Nat), (∀ i ∈ l, i < n) → ((l.map Y).map μ).sum ≤ Rows.uptoBulkAll (l.map D) := by
    intro l
    induction l with
    | nil => intro _; simp
    | cons a l ih =>
      intro hl
      have h1 := ih fun i hi => hl i (List.mem_cons_of_mem _ hi)
      have h2 := h a (hl a List.mem_cons_self)
      simp only [List.map_cons, List.sum_cons, Rows.uptoBulkAll]
      omega
  exact gen _ fun i hi => List.mem_range.1 hi
theorem opensU_slice {t e : TypeId} {α : Type} [Inhabited α] {f : α → List Value} {G : World → α → Prop} {μ : α → Nat} {s bytes : Nat} (ht : P.underlying t = some (.slice e)) (hC : P.cellsOf e = s) (hb : P.bytesOf e = bytes) (he : OpensU P e f G μ) (hs : 0 < s) (hf : ∀ a, (f a).length = s) :
    OpensU P t (fun x : SlV α => [.slice x.A x.l.length x.c]) (fun w x => SlAt f s w x.A x.l ∧ x.l.length * bytes ≤ reachBytes ∧ x.l.length ≤ x.c ∧ x.c ≤ maxLen ∧ ∀ a ∈ x.l, G w a) (fun x => (x.l.map μ).sum + 1) := fun H enc w fuel cs x h hw => by
  rcases open_slice ht h with ⟨rfl, rfl⟩ | ⟨a, len, cap, m, n, D, Pl, rfl, _, hl, hm, hmm, rfl, hx⟩
  · exact ⟨⟨none, 0, []⟩, rfl, ⟨SlAt.nil, by simp, by simp, by simp, by simp⟩, by simp [Rows.uptoBulk]⟩
  · simp only [if_true] at hmm
    subst hmm
    have hw1 : ∀ n ∈ DataW.weights P t (.slice ((List.range len).map D) ((List.range (m - len)).map fun j => D (len + j))), n ≤ reachBytes := hw
    have hwe : DataW.weights P t (.slice ((List.range len).map D) ((List.range (m - len)).map fun j => D (len + j))) = (((List.range len).map D).length + ((List.range (m - len)).map fun j => D (len + j)).length) * P.bytesOf e :: (DataW.weightsAll P e ((List.range len).map D) ++ DataW.weightsAll P e ((List.range (m - len)).map fun j => D (len + j))) := by
      rw [DataW.weights, ht]
    rw [hwe] at hw1
    have hall : ∀ (l : List (DataW H)) (d : DataW H), d ∈ l → ∀ n ∈ d.weights P e, n ∈ DataW.weightsAll P e l := by
      intro l
      induction l with
      | nil => intro d hd; cases hd
      | cons y l ih =>
        intro d hd n hn
        rw [DataW.weightsAll]
        rcases List.mem_cons.1 hd with rfl | hd
        · exact List.mem_append_left _ hn
        · exact List.mem_append_right _ (ih d hd n hn)
    have hel : ∀ i, i < len → ∃ y : α, ((∃ cs', w.cells? 0 (a.add (i * s)) s = some cs' ∧ cs' = f y) ∧ G w y) ∧ μ y ≤ Rows.uptoBulk (D i) := fun i hi => by
      obtain ⟨cs', h1, h2⟩ := hx i (by omega)
      rw [hC] at h1
      obtain ⟨y, hy, hg, hmu⟩ := he H enc w n cs' (D i, Pl i) h2 (fun k hk => hw1 k (List.mem_cons_of_mem _ (List.mem_append_left _ (hall _ (D i) (List.mem_map.2 ⟨i, List.mem_range.2 hi, rfl⟩) k hk))))
      exact ⟨y, ⟨⟨cs', h1, hy⟩, hg⟩, hmu⟩
    obtain ⟨Y, hYY⟩ := choose_lt hel
    have hY := fun i hi => (hYY i hi).1
    have hbytes : len * bytes ≤ reachBytes := by
      have := hw1 _ (List.mem_cons_self ..)
      simp only [List.length_map, List.length_range] at this
      rw [hb] at this
      exact Nat.le_trans (Nat.mul_le_mul_right _ (by omega)) this
    refine ⟨⟨some a, m, (List.range len).map Y⟩, by simp, ⟨?_, by simpa using hbytes, by simpa using hl, hm, fun y hy => ?_⟩, ?_⟩
    · intro hne
      have hlen0 : 0 < len := by
        rcases Nat.eq_zero_or_pos len with h0 | h0
        · subst h0; exact absurd rfl hne
        · exact h0
      have hcell : ∀ i, i < len → ∀ j u, (f (Y i))[j]? = some u → w.cell? ((a.add (i * s)).add j) = some u := fun i hi j u hu => by
        obtain ⟨⟨cs', h1, rfl⟩, _⟩ := hY i hi
        obtain ⟨_, hl', hat⟩ := World.cells?_some h1
        rw [hat j (by rw [← hf (Y i)]; exact (List.getElem?_eq_some_iff.1 hu).1)]
        exact hu
      have h00 : (f (Y 0))[0]? = some ((f (Y 0))[0]'(by rw [hf]; exact hs)) := List.getElem?_eq_getElem _
      have hc0 := hcell 0 hlen0 0 _ h00
      have hspot : a.spot = none := by
        have := World.cell?_spot hc0
        simpa [Addr.add] using this
      obtain ⟨b, off, spot⟩ := a
      simp only at hspot
      subst hspot
      have hadd : ∀ j, (⟨b, off, none⟩ : Addr).add j = ⟨b, off + j, none⟩ := fun j => by unfold Addr.add; split <;> simp_all
      have hblt : b < w.heap.size := by
        have := World.block_lt_of_cell? w _ hc0
        simpa [Addr.add] using this
      refine ⟨b, off, rfl, hblt, fun k y hk j u hu => ?_⟩
      have hkl : k < len := by
        have := (List.getElem?_eq_some_iff.1 hk).1
        simpa using this
      have hyk : y = Y k := by
        simp [hkl] at hk
        exact hk.symm
      subst hyk
      have := hcell k hkl j u hu
      rw [add_add, hadd, ← Nat.add_assoc] at this
      exact this
    · obtain ⟨i, hi, rfl⟩ := List.mem_map.1 hy
      exact (hY i (List.mem_range.1 hi)).2
    · have := bulk_map D Y μ len fun i hi => (hYY i hi).2
      simp only [Rows.uptoBulk]
      omega
theorem field_opensU {t : TypeId} {fs : Array Field} {H : Type} {enc : TypeId × Value → H} {w : World} {fuel : Nat} {cs : List Value} {x : DataW H × List MemPlace} (ht : P.underlying t = some (.struct fs)) (h : DataW.trod enc P w 0 (fun _ => true) true fuel t cs = some x)
    (hw : ∀ n ∈ x.1.weights P t, n ≤ reachBytes) (j : Nat) (fd : Field) (hj : fs[j]? = some fd) (off k : Nat) (hoff : fd.offset = off) (hk : P.cellsOf fd.type = k) {α : Type} {f : α → List Value} {G : World → α → Prop} {μ : α → Nat} (ho : OpensU P fd.type f G μ) :
    ∃ a, (cs.drop off).take k = f a ∧ G w a ∧ μ a ≤ bulkAt x.1 j := by
  subst hoff hk
  obtain ⟨xs, n, _, rfl, hlen, hxl, hf⟩ := DataW.trod_struct ht h
  have hjl : j < xs.length := by rw [hxl]; exact (Array.getElem?_eq_some_iff.1 hj).1
  have h1 := hf j fd hj
  rw [List.getElem?_eq_getElem hjl] at h1
  obtain ⟨a, e1, e2, e3⟩ := ho H enc w n _ _ h1 fun k hk => hw k (by
    show k ∈ DataW.weights P t (.agg (xs.map (·.1)))
    rw [DataW.weights, ht]
    refine DataW.weights_mem_each (j := j) (t := fd.type) (d := xs[j].1) ?_ ?_ k hk
    · simp [hj]
    · simp [List.getElem?_eq_getElem hjl])
  refine ⟨a, e1, e2, ?_⟩
  show _ ≤ ((xs.map (·.1))[j]?.map Rows.uptoBulk).getD 0
  simpa [List.getElem?_eq_getElem hjl] using e3
theorem OpensU.arg {t : TypeId} {α : Type} {f : α → List Value} {G : World → α → Prop} {μ : α → Nat} (ho : OpensU P t f G μ) {H : Type} {enc : TypeId × Value → H} {w : World} {v : Value} {d : DataW H} {p : List MemPlace} (h : DataW.Trod enc P w 0 (fun _ => true) true t v d p)
    (hw : ∀ n ∈ d.weights P t, n ≤ reachBytes) : ∃ a, v.cells.toList = f a ∧ G w a ∧ μ a ≤ Rows.uptoBulk d := by
  obtain ⟨fuel, hf⟩ := h
  exact ho H enc w fuel _ _ hf hw
end
end Go.Proofs.YtjegncmkebbdfaaGreatDoor

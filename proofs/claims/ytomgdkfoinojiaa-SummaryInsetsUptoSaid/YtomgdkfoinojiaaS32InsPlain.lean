/-
  Summaries, plain: what a search finds in the summary of a state with different stubs. Conditions stand in each theorem.
-/
import Derived.Test.YtomgdkfoinojiaaS32Mono
import Derived.Test.YtomgdkfoinojiaaS32Find
namespace Go.Proofs.Ytomgdkfoinojiaa
open Go.RowKit
/-- No two of the first k stubs agree in owner and number with another one ahead of them. -/
def keyE (e f : StubE) : Bool := e.owner == f.owner && e.number == f.number
def DistTo (es : List StubE) (k : Nat) : Prop := ∀ i j e f, j < i → i < k → es[i]? = some e → es[j]? = some f → keyE e f = false
theorem DistTo.zero {es : List StubE} : DistTo es 0 := fun i j e f _ h => absurd h (by omega)
theorem DistTo.succ {es : List StubE} {k : Nat} {e : StubE} (h : DistTo es k) (he : es[k]? = some e) (hno : NoneTo (keyE e) es k) : DistTo es (k + 1) := by
  intro i j a b hji hi ha hb
  rcases Nat.lt_or_ge i k with h1 | h1
  · exact h i j a b hji h1 ha hb
  · have : i = k := by omega
    subst this
    rw [he] at ha; injection ha with ha; subst ha
    exact hno j b hji hb
theorem keyE_comm (e f : StubE) : keyE e f = keyE f e := by
  have h : ∀ a b : Int, (a == b) = (b == a) := fun a b => by rw [Bool.eq_iff_iff, beq_iff_eq, beq_iff_eq]; exact eq_comm
  unfold keyE
  rw [h, h e.number]
theorem DistTo.same {es : List StubE} (h : DistTo es es.length) {e f : StubE} (he : e ∈ es) (hf : f ∈ es) (hk : keyE e f = true) : e = f := by
  obtain ⟨i, hi⟩ := List.getElem?_of_mem he
  obtain ⟨j, hj⟩ := List.getElem?_of_mem hf
  rcases Nat.lt_trichotomy i j with h1 | h1 | h1
  · have := h j i f e h1 (List.getElem?_eq_some_iff.1 hj).1 hj hi
    rw [keyE_comm] at this
    rw [this] at hk; cases hk
  · subst h1; rw [hi] at hj; exact Option.some.inj hj
  · have := h i j e f h1 (List.getElem?_eq_some_iff.1 hi).1 hi hj
    rw [this] at hk; cases hk
theorem foundC_sum {L : List NodeC} {roots : List IDE} {ks : List ScionE} {es : List StubE} {q : List SumE} (h : q.map SumE.con = sumL L roots ks es) (o n : Int) : foundC o n q = ((sortL ltE (es.filter aliveB)).find? fun e => e.owner == o && e.number == n).map (sumOf L roots ks) := by
  have e1 : foundC o n q = (q.map SumE.con).find? fun x : SumC => x.owner == o && x.number == n := by
    unfold foundC
    rw [List.find?_map]
    rfl
  rw [e1, h, sumL_map, List.find?_map]
  rfl
theorem foundC_alive {L : List NodeC} {roots : List IDE} {ks : List ScionE} {es : List StubE} {q : List SumE} (h : q.map SumE.con = sumL L roots ks es) (hd : DistTo es es.length) {e : StubE} (he : e ∈ es) :
    foundC e.owner e.number q = if aliveB e then some (sumOf L roots ks e) else none := by
  rw [foundC_sum h]
  have hm : ∀ f, f ∈ sortL ltE (es.filter aliveB) ↔ f ∈ es ∧ aliveB f = true := fun f => by rw [sortL_mem ltE_swo, List.mem_filter]
  cases hf : (sortL ltE (es.filter aliveB)).find? fun f => f.owner == e.owner && f.number == e.number with
  | none =>
    split
    · rename_i ha
      rw [List.find?_eq_none] at hf
      have := hf e ((hm e).2 ⟨he, ha⟩)
      simp at this
    · rfl
  | some f =>
    have h1 := List.find?_some hf
    have h2 := (hm f).1 (List.mem_of_find?_eq_some hf)
    obtain rfl := hd.same h2.1 he h1
    rw [if_pos h2.2]
    rfl
theorem sumOf_inset_mem {L : List NodeC} {roots : List IDE} {ks : List ScionE} {e : StubE} {k : ScionE} (hk : k ∈ ks) (hi : insB L (idS e) k = true) : toIn k ∈ (sumOf L roots ks e).inset := by
  have O : Go.Sort.SWO ltIn := cmpIn_swo
  show toIn k ∈ sortL ltIn ((insL L ks (idS e)).map toIn)
  rw [sortL_mem O]
  exact List.mem_map_of_mem (List.mem_filter.2 ⟨hk, hi⟩)
theorem sumOf_inset_len {L : List NodeC} {roots : List IDE} {ks : List ScionE} {e : StubE} : (sumOf L roots ks e).inset.length = (insL L ks (idS e)).length := by
  have O : Go.Sort.SWO ltIn := cmpIn_swo
  show (sortL ltIn ((insL L ks (idS e)).map toIn)).length = _
  rw [sortL_len O, List.length_map]
theorem sumL_ins6 {L : List NodeC} {roots : List IDE} {ks : List ScionE} {es : List StubE} {q : List SumE} {k : Nat} {x : SumE} (h : q.map SumE.con = sumL L roots ks es) (hx : q[k]? = some x) (hk : ks.length ≤ 100) : x.inset.length ≤ 1000000000 := by
  obtain ⟨e, he, _⟩ := sumL_get h h hx hx
  have h2 : x.inset = x.con.inset := rfl
  rw [h2, he, sumOf_inset_len]
  have : (insL L ks (idS e)).length ≤ ks.length := List.length_filter_le _ _
  omega
theorem insL_take6 {L : List NodeC} {ks : List ScionE} {x : IDE} {k : Nat} {s : ScionE} (h : ks[k]? = some s) : (insL L (ks.take (k + 1)) x).length = (insL L (ks.take k) x).length + if insB L x s then 1 else 0 := by
  unfold insL
  rw [filter_take h, List.length_append]
  split <;> rfl
theorem insL_len6 {L : List NodeC} {ks : List ScionE} {x : IDE} {k : Nat} : (insL L (ks.take k) x).length ≤ k := Nat.le_trans (List.length_filter_le _ _) (by rw [List.length_take]; omega)
/-- Among the first m. -/
def anyTo (y : InsetE) (l : List InsetE) (m : Nat) : Bool := (l.take m).any fun z => z.beq y
theorem anyTo_succ {y z : InsetE} {l : List InsetE} {m : Nat} (h : l[m]? = some z) : anyTo y l (m + 1) = (anyTo y l m || z.beq y) := by
  unfold anyTo
  rw [take_snoc_get h, List.any_append]
  simp
theorem anyTo_all {y : InsetE} {l : List InsetE} (h : y ∈ l) : anyTo y l l.length = true := by
  unfold anyTo
  rw [List.take_length, List.any_eq_true]
  exact ⟨y, h, InsetE.beq_iff.2 rfl⟩
end Go.Proofs.Ytomgdkfoinojiaa

/-
  Summaries, plain: the summary of a state without repetitions is valid. Conditions stand in each theorem.
-/
import Derived.Test.YtomgdkfoinojiaaGrpJ
import Derived.Test.YtomgdkfoinojiaaS32Valid
import Derived.Test.YtomgdkfoinojiaaGrpK
namespace Go.Proofs.Ytomgdkfoinojiaa
open Go.RowKit Go.Sort
theorem pw_get {α : Type} {R : α → α → Prop} {l : List α} (h : l.Pairwise R) {i j : Nat} {x y : α} (hij : i < j) (hx : l[i]? = some x) (hy : l[j]? = some y) : R x y := by
  obtain ⟨h1, rfl⟩ := List.getElem?_eq_some_iff.1 hx
  obtain ⟨h2, rfl⟩ := List.getElem?_eq_some_iff.1 hy
  exact List.pairwise_iff_getElem.1 h i j h1 h2 hij
section
variable {α : Type} [Inhabited α] {lt : α → α → Bool} {l : List α}
theorem strict_of (O : SWO lt) (hd : l.Pairwise fun a b => lt a b = true ∨ lt b a = true) {j : Nat} {x y : α} (hx : (sortL lt l)[j]? = some x) (hy : (sortL lt l)[j + 1]? = some y) : lt x y = true := by
  have h1 := pw_get (sortL_ok O l).1 (show j < j + 1 by omega) hx hy
  have h2 : (sortL lt l).Pairwise fun a b => lt a b = true ∨ lt b a = true := ((sortL_ok O l).2.perm O).pairwise_iff (fun h => h.symm) |>.2 hd
  have h3 := pw_get h2 (show j < j + 1 by omega) hx hy
  rw [h1] at h3
  rcases h3 with h | h
  · exact h
  · cases h
end
def KD (a b : ScionE) : Prop := ¬ (a.client = b.client ∧ a.number = b.number)
theorem machB_of {n : Int} (h : 1 ≤ n ∧ n ≤ 8) : machB n = true := by unfold machB; rw [decide_eq_true h.1, decide_eq_true h.2]; rfl
theorem validSc_out {e : ScionE} (h : validScB e = true) : 1 ≤ e.client ∧ e.client ≤ 8 ∧ 0 ≤ e.out := by
  unfold validScB at h
  simp only [Bool.and_eq_true, decide_eq_true_eq] at h
  exact ⟨h.1, h.2.1, h.2.2.2.1⟩
theorem ins_valid {L : List NodeC} {ks : List ScionE} {x : IDE} (hv : ∀ k ∈ ks, validScB k = true) (hd : ks.Pairwise KD) : insOk (sortL ltIn ((insL L ks x).map toIn)) = true := by
  have O : SWO ltIn := cmpIn_swo
  refine range_all fun m hm => ?_
  have hmem : ∀ y ∈ sortL ltIn ((insL L ks x).map toIn), 1 ≤ y.client ∧ y.client ≤ 8 ∧ 0 ≤ y.out := fun y hy => by
    rw [sortL_mem O] at hy
    obtain ⟨k, hk, rfl⟩ := List.mem_map.1 hy
    exact validSc_out (hv k (List.mem_filter.1 hk).1)
  have hpw : ((insL L ks x).map toIn).Pairwise fun a b => ltIn a b = true ∨ ltIn b a = true := by
    rw [List.pairwise_map]
    refine (hd.filter _).imp fun {a b} h => ?_
    have e1 : ∀ p q : InsetE, ltIn p q = decide (lexN p.client p.number q.client q.number) := fun p q => cmpIn_lt p q
    rw [e1, e1, decide_eq_true_eq, decide_eq_true_eq]
    unfold KD at h
    unfold lexN toIn
    dsimp only
    omega
  have hst := fun (j : Nat) (p y : InsetE) => strict_of (j := j) (x := p) (y := y) O hpw
  generalize hI : sortL ltIn ((insL L ks x).map toIn) = I at hm hmem hst ⊢
  have hy : I[m]? = some I[m] := List.getElem?_eq_getElem hm
  have h1 := hmem _ (List.mem_of_getElem? hy)
  generalize I[m] = y at hy h1
  unfold okIn
  rw [hy]
  dsimp only
  rw [machB_of ⟨h1.1, h1.2.1⟩, decide_eq_true h1.2.2]
  rcases m with _ | j
  · rfl
  · have hp : I[j]? = some (I[j]'(by omega)) := List.getElem?_eq_getElem (by omega)
    generalize I[j]'(by omega) = p at hp
    dsimp only
    rw [hp]
    dsimp only
    have h2 := hst j p y hp hy
    rw [show ltIn p y = decide (lexN p.client p.number y.client y.number) from cmpIn_lt p y] at h2
    rw [h2]
    rfl
theorem sum_valid {L : List NodeC} {roots : List IDE} {ks : List ScionE} {es : List StubE} {ep : Int} (hep : 0 ≤ ep) (hv : ∀ k ∈ ks, validScB k = true) (hd : ks.Pairwise KD) (hkl : ks.length ≤ 100) (hel : es.length ≤ 100) (ho : ∀ e ∈ es, 1 ≤ e.owner ∧ e.owner ≤ 8) (hdi : DistTo es es.length) :
    validS ep (sumL L roots ks es) = true := by
  rw [sumL_map]
  have hpw : (es.filter aliveB).Pairwise fun a b => ltE a b = true ∨ ltE b a = true := by
    refine List.Pairwise.filter _ ?_
    rw [List.pairwise_iff_getElem]
    intro i j hi hj hij
    have := hdi j i es[j] es[i] hij hj (List.getElem?_eq_getElem hj) (List.getElem?_eq_getElem hi)
    unfold keyE at this
    rw [Bool.and_eq_false_iff, beq_eq_false_iff_ne, beq_eq_false_iff_ne] at this
    unfold ltE
    rw [decide_eq_true_eq, decide_eq_true_eq]
    unfold lexN
    omega
  have hst := fun (j : Nat) (p y : StubE) => strict_of (j := j) (x := p) (y := y) ltE_swo hpw
  have hmem : ∀ e ∈ sortL ltE (es.filter aliveB), 1 ≤ e.owner ∧ e.owner ≤ 8 := fun e he => by
    rw [sortL_mem ltE_swo] at he
    exact ho e (List.mem_filter.1 he).1
  have hlen : (sortL ltE (es.filter aliveB)).length ≤ 100 := by
    rw [sortL_len ltE_swo]; exact Nat.le_trans (filter_le es) hel
  generalize sortL ltE (es.filter aliveB) = S at hst hmem hlen ⊢
  unfold validS
  rw [decide_eq_true hep, List.length_map, decide_eq_true (by omega : S.length ≤ 1024)]
  rw [range_all fun k hk => ?_]
  · rfl
  have hx : S[k]? = some S[k] := List.getElem?_eq_getElem hk
  have h1 := hmem _ (List.mem_of_getElem? hx)
  generalize S[k] = e at hx h1
  have hS : okS (sumOf L roots ks e) = true := by
    have hd1 := farD_one (hasB L roots (idS e)) ((insL L ks (idS e)).map ScionE.distance)
    have hd2 : farD (hasB L roots (idS e)) ((insL L ks (idS e)).map ScionE.distance) ≤ 1048576 := by
      have := leastD_range ((insL L ks (idS e)).map ScionE.distance)
      unfold farD; split <;> omega
    have hil : (sumOf L roots ks e).inset.length ≤ 1024 := by
      rw [sumOf_inset_len]
      have : (insL L ks (idS e)).length ≤ ks.length := List.length_filter_le _ _
      omega
    unfold okS
    rw [show (sumOf L roots ks e).owner = e.owner from rfl, machB_of h1, show (sumOf L roots ks e).distance = farD (hasB L roots (idS e)) ((insL L ks (idS e)).map ScionE.distance) from rfl, decide_eq_true hd1, decide_eq_true hd2, decide_eq_true hil,
      show (sumOf L roots ks e).rooted = hasB L roots (idS e) from rfl, show insOk (sumOf L roots ks e).inset = true from ins_valid hv hd]
    cases hasB L roots (idS e)
    · rfl
    · rfl
  unfold okAt
  rw [List.getElem?_map, hx]
  dsimp only [Option.map_some]
  rw [hS]
  rcases k with _ | j
  · rfl
  · have hp : S[j]? = some (S[j]'(by omega)) := List.getElem?_eq_getElem (by omega)
    generalize S[j]'(by omega) = p at hp
    dsimp only
    rw [List.getElem?_map, hp]
    dsimp only [Option.map_some]
    have h2 := hst j p e hp hx
    unfold ltE at h2
    rw [show (sumOf L roots ks p).owner = p.owner from rfl, show (sumOf L roots ks p).number = p.number from rfl, show (sumOf L roots ks e).owner = e.owner from rfl, show (sumOf L roots ks e).number = e.number from rfl, h2]
    rfl
end Go.Proofs.Ytomgdkfoinojiaa

/-
  Summaries, plain: with more roots and scions, and with scions that lie one farther. Conditions stand in each theorem.
-/
import Derived.Test.YtomgdkfoinojiaaS32Plain
namespace Go.Proofs.Ytomgdkfoinojiaa
open Go.RowKit Go.Sort
def ltE (a b : StubE) : Bool := decide (lexN a.owner a.number b.owner b.number)
instance : Inhabited StubE := ⟨⟨0, 0, 0, 0, 0, 0, 0, false, false, false, 0, 0⟩⟩
theorem ltE_swo : SWO ltE := ⟨fun x => by simp [ltE, lexN], fun x y z => by simp only [ltE, decide_eq_true_eq]; unfold lexN; omega, fun x y z => by simp only [ltE, decide_eq_false_iff_not]; unfold lexN; omega⟩
theorem sortL_map {α β : Type} [Inhabited α] [Inhabited β] {lt : α → α → Bool} {lt' : β → β → Bool} (O : SWO lt) (O' : SWO lt') (f : α → β) (h : ∀ x y, lt' (f x) (f y) = lt x y) (l : List α) : sortL lt' (l.map f) = (sortL lt l).map f :=
  (sortL_eq O' (Srt.map f h (sortL_ok O l).1) (Stb.map f h O' (sortL_ok O l).2)).symm
theorem sumL_map (L : List NodeC) (roots : List IDE) (ks : List ScionE) (es : List StubE) : sumL L roots ks es = (sortL ltE (es.filter aliveB)).map (sumOf L roots ks) :=
  sortL_map ltE_swo ltC_swo (sumOf L roots ks) (fun _ _ => rfl) _
theorem hasB_more {L : List NodeC} {roots more : List IDE} {x : IDE} (h : hasB L roots x = true) : hasB L (roots ++ more) x = true := by
  rw [hasB_iff] at h ⊢
  exact Reach.mono (fun y hy => List.mem_append_left _ hy) h
theorem leastD_app (l m : List Int) : leastD (l ++ m) ≤ leastD l := by
  induction m generalizing l with
  | nil => simp
  | cons d m ih =>
    rw [show l ++ d :: m = (l ++ [d]) ++ m by simp]
    refine Int.le_trans (ih _) ?_
    rw [leastD_snoc]; omega
theorem farD_one (r : Bool) (l : List Int) : 1 ≤ farD r l := by
  have := leastD_range l
  unfold farD; split <;> omega
theorem farD_more (r r' : Bool) (l m : List Int) (h : r = true → r' = true) : farD r' (l ++ m) ≤ farD r l := by
  have := leastD_app l m
  have h2 := farD_one r l
  unfold farD at *
  cases r' <;> cases r <;> simp_all <;> omega
/-- One summary, with more. -/
theorem sumOf_more (L : List NodeC) (roots more : List IDE) (ks kt : List ScionE) (e : StubE) :
    ((sumOf L roots ks e).rooted = true → (sumOf L (roots ++ more) (ks ++ kt) e).rooted = true) ∧ (sumOf L (roots ++ more) (ks ++ kt) e).distance ≤ (sumOf L roots ks e).distance ∧ (sumOf L roots ks e).inset.length ≤ (sumOf L (roots ++ more) (ks ++ kt) e).inset.length := by
  refine ⟨fun h => hasB_more h, ?_, ?_⟩
  · simp only [sumOf, insL, List.filter_append, List.map_append]
    exact farD_more _ _ _ _ (fun h => hasB_more h)
  · have O : SWO ltIn := cmpIn_swo
    simp only [sumOf, insL, List.filter_append, List.map_append]
    rw [sortL_len O, sortL_len O, List.length_append]
    omega
/-- A scion that lies one farther. -/
def upK (k : ScionE) : ScionE := { k with distance := k.distance + 1 }
theorem leastD_up (l : List Int) (h : ∀ d ∈ l, 0 ≤ d ∧ d ≤ 1048576) : min (leastD (l.map (· + 1)) + 1) 1048576 = min (min (leastD l + 1) 1048576 + 1) 1048576 := by
  have key : ∀ (l : List Int) (m m' : Int), (∀ d ∈ l, 0 ≤ d ∧ d ≤ 1048576) → 0 ≤ m → m ≤ 1048576 → m' = min (m + 1) 1048576 → (l.map (· + 1)).foldl (fun m d => min m (max d 0)) m' = min (l.foldl (fun m d => min m (max d 0)) m + 1) 1048576 := by
    intro l
    induction l with
    | nil => intro m m' _ _ _ h; simpa using h
    | cons d l ih =>
      intro m m' hl h0 h1 h2
      have hd := hl d List.mem_cons_self
      rw [List.map_cons, List.foldl_cons, List.foldl_cons]
      exact ih _ _ (fun x hx => hl x (List.mem_cons_of_mem _ hx)) (by omega) (by omega) (by omega)
  have := key l 1048576 1048576 h (by omega) (by omega) (by omega)
  unfold leastD
  rw [this]
theorem insL_up (L : List NodeC) (ks : List ScionE) (x : IDE) : insL L (ks.map upK) x = (insL L ks x).map upK := by
  unfold insL
  rw [List.filter_map]
  rfl
/-- One summary, the scions one farther. -/
theorem sumOf_up (L : List NodeC) (roots : List IDE) (ks : List ScionE) (e : StubE) (h : ∀ k ∈ ks, 0 ≤ k.distance ∧ k.distance ≤ 1048576) :
    sumOf L roots (ks.map upK) e = { sumOf L roots ks e with distance := if (sumOf L roots ks e).rooted then (sumOf L roots ks e).distance else min ((sumOf L roots ks e).distance + 1) 1048576 } := by
  simp only [sumOf, insL_up, List.map_map]
  have e1 : toIn ∘ upK = toIn := rfl
  have e2 : ScionE.distance ∘ upK = (· + 1) ∘ ScionE.distance := rfl
  rw [e1, e2, ← List.map_map]
  congr 1
  by_cases hB : hasB L roots (idS e) = true
  · simp only [hB, if_true, farD]
  · simp only [hB, farD, Bool.false_eq_true, if_false]
    refine leastD_up _ fun d hd => ?_
    obtain ⟨k, hk, rfl⟩ := List.mem_map.1 hd
    exact h k (List.mem_filter.1 hk).1
end Go.Proofs.Ytomgdkfoinojiaa

/-
  What the calls of a table do to its entries, and what they keep: plain Lean. Conditions stand in each theorem.
-/
import Derived.Test.YtgddapgdeaeggaaC23Walk5
import Derived.Test.YtgddapgdeaeggaaC23Walk6
import Derived.Test.YtgddapgdeaeggaaC23Walk7
namespace Go.Proofs.Ytgddapgdeaeggaa
structure Inv (l : List StubE) : Prop where
  valid : ∀ e ∈ l, validE e = true
  keys : (l.map keyE).Nodup
  ids : (l.map idE).Nodup
theorem nodup_map_iff {α κ : Type} {f : α → κ} {l : List α} : (l.map f).Nodup ↔ ∀ (i k : Nat) (x y : α), l[i]? = some x → l[k]? = some y → f x = f y → i = k := by
  constructor
  · intro h i k x y hx hy he; exact nodup_at h hx hy he
  · intro h
    refine List.pairwise_map.2 (List.pairwise_iff_getElem.2 fun i j hi hj hij he => ?_)
    have := h i j _ _ (List.getElem?_eq_getElem hi) (List.getElem?_eq_getElem hj) he
    omega
theorem set_get {α : Type} {l : List α} {j i : Nat} {v y : α} (h : (l.set j v)[i]? = some y) : (i = j ∧ y = v ∧ j < l.length) ∨ (i ≠ j ∧ l[i]? = some y) := by
  by_cases hij : j = i
  · subst hij
    rw [List.getElem?_set] at h
    simp only [if_true] at h
    split at h
    · rename_i hl; injection h with h; exact .inl ⟨rfl, h.symm, hl⟩
    · cases h
  · rw [List.getElem?_set_ne hij] at h
    exact .inr ⟨fun e => hij e.symm, h⟩
theorem Inv.set {l : List StubE} (h : Inv l) {j : Nat} {x v : StubE} (hx : l[j]? = some x) (hk : keyE x = keyE v) (hv : validE v = true) (hid : ∀ (i : Nat) (y : StubE), l[i]? = some y → i ≠ j → idE y ≠ idE v) : Inv (l.set j v) := by
  refine ⟨fun e he => ?_, ?_, ?_⟩
  · rcases List.mem_or_eq_of_mem_set he with he | rfl
    · exact h.valid e he
    · exact hv
  · rw [← putK_old h.keys hx hk]; exact putK_keys h.keys
  · refine nodup_map_iff.2 fun i k a b ha hb he => ?_
    rcases set_get ha with ⟨e1, e2, _⟩ | ⟨hi, ha'⟩
    · rcases set_get hb with ⟨e3, _, _⟩ | ⟨hk', hb'⟩
      · rw [e1, e3]
      · exact absurd (he.symm.trans (by rw [e2])) (hid k b hb' hk')
    · rcases set_get hb with ⟨e3, e4, _⟩ | ⟨hk', hb'⟩
      · exact absurd (he.trans (by rw [e4])) (hid i a ha' hi)
      · exact nodup_at h.ids ha' hb' he
theorem findK_some {κ α : Type} [DecidableEq κ] {kf : α → κ} {l : List α} {k : κ} {x : α} (h : findK kf l k = some x) : ∃ j : Nat, l[j]? = some x ∧ kf x = k := by
  have hm := List.mem_of_find?_eq_some h
  obtain ⟨j, hj⟩ := List.getElem?_of_mem hm
  exact ⟨j, hj, by simpa using List.find?_some h⟩
theorem findK_none' {κ α : Type} [DecidableEq κ] {kf : α → κ} {l : List α} {k : κ} (h : findK kf l k = none) : ∀ x ∈ l, kf x ≠ k := by
  unfold findK at h
  rw [List.find?_eq_none] at h
  intro x hx; simpa using h x hx
theorem hasK_false {l : List StubE} {k : KeyE} (h : hasK l k = false) : ∀ x ∈ l, keyE x ≠ k := by
  unfold hasK at h
  cases hf : findK keyE l k with
  | none => exact findK_none' hf
  | some y => rw [hf] at h; cases h
theorem hasK_true {l : List StubE} {k : KeyE} (h : hasK l k = true) : ∃ (j : Nat) (x : StubE), findK keyE l k = some x ∧ l[j]? = some x ∧ keyE x = k := by
  unfold hasK at h
  cases hf : findK keyE l k with
  | none => rw [hf] at h; cases h
  | some y => obtain ⟨j, hj⟩ := findK_some hf; exact ⟨j, y, rfl, hj⟩
theorem hasID_false {l : List StubE} {k : IDE} (h : hasID l k = false) : ∀ x ∈ l, idE x ≠ k := by
  unfold hasID at h
  cases hf : findK idE l k with
  | none => exact findK_none' hf
  | some y => rw [hf] at h; cases h
theorem addErr_ok {l : List StubE} {e : StubE} (h : addErr l e = 0) : validE e = true ∧ hasK l (keyE e) = false ∧ hasID l (idE e) = false := by
  unfold addErr at h
  cases h1 : validE e
  · rw [h1] at h; simp at h
  · cases h2 : hasK l (keyE e)
    · cases h3 : hasID l (idE e)
      · exact ⟨rfl, rfl, rfl⟩
      · rw [h1, h2, h3] at h; simp at h
    · rw [h1, h2] at h; simp at h
theorem inv_add {l : List StubE} (h : Inv l) (e : StubE) : Inv (addT l e) := by
  unfold addT
  split
  · rename_i h0
    obtain ⟨h1, h2, h3⟩ := addErr_ok h0
    have hk := hasK_false h2
    have hi := hasID_false h3
    rw [putK_new hk]
    refine ⟨fun x hx => ?_, ?_, ?_⟩
    · rcases List.mem_append.1 hx with hx | hx
      · exact h.valid x hx
      · rw [List.mem_singleton] at hx; subst hx; exact h1
    · rw [List.map_append]
      refine List.nodup_append.2 ⟨h.keys, by simp, fun a ha b hb => ?_⟩
      obtain ⟨x, hx, rfl⟩ := List.mem_map.1 ha
      simp at hb; rw [hb]; exact hk x hx
    · rw [List.map_append]
      refine List.nodup_append.2 ⟨h.ids, by simp, fun a ha b hb => ?_⟩
      obtain ⟨x, hx, rfl⟩ := List.mem_map.1 ha
      simp at hb; rw [hb]; exact hi x hx
  · exact h
theorem putErr_ok {l : List StubE} {e : StubE} (h : putErr l e = 0) : validE e = true ∧ hasK l (keyE e) = true ∧ (hasID l (idE e) = false ∨ ∃ y, findK idE l (idE e) = some y ∧ keyE y = keyE e) := by
  unfold putErr at h
  cases h1 : validE e
  · rw [h1] at h; simp at h
  · cases h2 : hasK l (keyE e)
    · rw [h1, h2] at h; simp at h
    · refine ⟨rfl, rfl, ?_⟩
      cases h3 : hasID l (idE e)
      · exact .inl rfl
      · refine .inr ?_
        unfold hasID at h3
        cases hf : findK idE l (idE e) with
        | none => rw [hf] at h3; cases h3
        | some y =>
          refine ⟨y, rfl, ?_⟩
          have h4 : hasID l (idE e) = true := by unfold hasID; rw [hf]; rfl
          rw [h1, h2, h4, hf] at h
          simp at h
          exact h
theorem inv_put {l : List StubE} (h : Inv l) (e : StubE) : Inv (putT l e) := by
  unfold putT
  split
  · rename_i h0
    obtain ⟨h1, h2, h3⟩ := putErr_ok h0
    obtain ⟨j, x, hf, hx, hk⟩ := hasK_true h2
    rw [putK_old h.keys hx hk]
    refine h.set hx hk h1 fun i y hy hij => ?_
    rcases h3 with h3 | ⟨z, hz, hzk⟩
    · exact hasID_false h3 y (List.mem_of_getElem? hy)
    · intro he
      obtain ⟨m, hm, hme⟩ := findK_some hz
      have e1 := nodup_at h.ids hy hm (he.trans hme.symm)
      have e2 := nodup_at h.keys hm hx (hzk.trans hk.symm)
      omega
  · exact h
theorem inv_ch {l : List StubE} (h : Inv l) {F : StubE → StubE} (hF : ∀ e, keyE (F e) = keyE e ∧ idE (F e) = idE e ∧ (validE e = true → validE (F e) = true)) (k : KeyE) : Inv (chT F l k) := by
  unfold chT
  split
  · rename_i x hx
    obtain ⟨j, hj, hk⟩ := findK_some hx
    rw [putK_old h.keys hj (hF x).1.symm]
    refine h.set hj (hF x).1.symm ((hF x).2.2 (h.valid x (List.mem_of_getElem? hj))) fun i y hy hij he => ?_
    rw [(hF x).2.1] at he
    exact hij (nodup_at h.ids hy hj he)
  · exact h
theorem touch_keeps (e : StubE) : keyE (touchE e) = keyE e ∧ idE (touchE e) = idE e ∧ (validE e = true → validE (touchE e) = true) := ⟨rfl, rfl, fun h => h⟩
theorem use_keeps (n : Int) (e : StubE) : keyE (useE n e) = keyE e ∧ idE (useE n e) = idE e ∧ (validE e = true → validE (useE n e) = true) := by
  refine ⟨rfl, rfl, fun h => ?_⟩
  have hl : 0 ≤ e.lastUse := by
    simp only [validE, Bool.and_eq_true, decide_eq_true_eq] at h
    exact h.2.2.2.2.2.1
  have h2 : validE (useE n e) = validE e := by
    unfold validE useE
    have : decide (0 ≤ max e.lastUse n) = decide (0 ≤ e.lastUse) := by rw [decide_eq_true hl]; exact decide_eq_true (by omega)
    simp only [this]
  rw [h2]; exact h
theorem inv_use {l : List StubE} (h : Inv l) (n : Int) (k : KeyE) : Inv (useT n l k) := by
  unfold useT
  split
  · exact h
  · exact inv_ch h (use_keeps n) k
theorem inv_rem {l : List StubE} (h : Inv l) (k : KeyE) : Inv (remK keyE l k) :=
  ⟨fun e he => h.valid e (List.mem_filter.1 he).1, h.keys.sublist (List.filter_sublist.map _), h.ids.sublist (List.filter_sublist.map _)⟩
theorem inv_clear {l : List StubE} (h : Inv l) : Inv (l.map clearE) := by
  refine ⟨fun e he => ?_, ?_, ?_⟩
  · obtain ⟨x, hx, rfl⟩ := List.mem_map.1 he; exact h.valid x hx
  · rw [List.map_map]; exact h.keys
  · rw [List.map_map]; exact h.ids
def callT (l : List StubE) (c : CallE) : List StubE := if c.kind = 0 then addT l c.ent else if c.kind = 1 then putT l c.ent else if c.kind = 2 then useT c.n l (keyE c.ent) else if c.kind = 3 then chT touchE l (keyE c.ent) else if c.kind = 4 then remK keyE l (keyE c.ent) else if c.kind = 5 then l.map clearE else l
def callErr (l : List StubE) (c : CallE) : Int := if c.kind = 0 then addErr l c.ent else if c.kind = 1 then putErr l c.ent else if c.kind = 2 then useErr c.n l (keyE c.ent) else if c.kind = 3 then chErr l (keyE c.ent) else if c.kind = 4 then chErr l (keyE c.ent) else 0
theorem inv_call {l : List StubE} (h : Inv l) (c : CallE) : Inv (callT l c) := by
  unfold callT
  split
  · exact inv_add h _
  · split
    · exact inv_put h _
    · split
      · exact inv_use h _ _
      · split
        · exact inv_ch h touch_keeps _
        · split
          · exact inv_rem h _
          · split
            · exact inv_clear h
            · exact h
theorem inv_nil : Inv [] := ⟨(fun e he => absurd he (by simp)), List.nodup_nil, List.nodup_nil⟩
def runT (cs : List CallE) : List StubE := cs.foldl callT []
theorem run_take {cs : List CallE} {k : Nat} {c : CallE} (hc : cs[k]? = some c) : runT (cs.take (k + 1)) = callT (runT (cs.take k)) c := by
  unfold runT; rw [take_snoc_get hc, List.foldl_append]; rfl
theorem inv_fold (cs : List CallE) : ∀ l, Inv l → Inv (cs.foldl callT l) := by
  induction cs with
  | nil => intro l h; exact h
  | cons c cs ih => intro l h; exact ih _ (inv_call h c)
theorem inv_run (cs : List CallE) : Inv (runT cs) := inv_fold cs [] inv_nil
theorem putK_len {l : List StubE} (v : StubE) : (putK keyE l v).length ≤ l.length + 1 := by
  unfold putK; split <;> simp
theorem ch_len (F : StubE → StubE) (l : List StubE) (k : KeyE) : (chT F l k).length ≤ l.length + 1 := by
  unfold chT; split
  · exact putK_len _
  · omega
theorem call_len (l : List StubE) (c : CallE) : (callT l c).length ≤ l.length + 1 := by
  unfold callT addT putT useT
  have h1 := putK_len (l := l) c.ent
  have h2 := ch_len touchE l (keyE c.ent)
  have h3 := ch_len (useE c.n) l (keyE c.ent)
  have h4 : (remK keyE l (keyE c.ent)).length ≤ l.length := List.length_filter_le _ _
  have h5 : (l.map clearE).length = l.length := List.length_map _
  split
  · split <;> omega
  · split
    · split <;> omega
    · split
      · split <;> omega
      · split
        · omega
        · split
          · omega
          · split <;> omega
theorem fold_len (cs : List CallE) : ∀ l : List StubE, (cs.foldl callT l).length ≤ l.length + cs.length := by
  induction cs with
  | nil => intro l; simp
  | cons c cs ih => intro l; have := ih (callT l c); have := call_len l c; simp only [List.foldl_cons, List.length_cons]; omega
theorem run_len (cs : List CallE) : (runT cs).length ≤ cs.length := by have := fold_len cs []; simpa [runT] using this
end Go.Proofs.Ytgddapgdeaeggaa

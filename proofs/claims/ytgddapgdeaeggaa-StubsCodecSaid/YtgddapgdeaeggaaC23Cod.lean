/-
  Contracts of the functions of this seat that each theorem names: what a call returns, and that it writes nothing that was there before. The conditions stand in each theorem.
-/
import Derived.Test.YtgddapgdeaeggaaC23Dec2
import Derived.Test.YtgddapgdeaeggaaC23Awake
namespace Go.Proofs.Ytgddapgdeaeggaa
open Go.RowKit
/-! Reading back what Encode wrote: plain. -/
theorem rdU_uintL {n : Int} (h : U64 n) (r : List Int) : rdU (uintL n ++ r, 0) = (n, (r, 0)) := by
  obtain ⟨h1, h2, h3⟩ := okU_of h.1 h.2 r
  unfold rdU
  simp only [if_true, h1, h2, h3]
theorem rdB_boolL (b : Bool) (r : List Int) : rdB (boolL b ++ r, 0) = (b, (r, 0)) := by
  rw [rdB_eq]
  cases b <;> simp [boolL]
theorem toI_id {n : Int} (h0 : 0 ≤ n) (h1 : n < 9223372036854775808) : toI n = n := by unfold toI wrap64; omega
theorem rdEnt_encE {e : StubE} (hv : validE e = true) (hr : RngE e) (r : List Int) : rdEnt (encE e ++ r, 0) = (e, (r, 0)) := by
  have hb := validE_bounds hv
  have hr' := hr
  unfold RngE at hr'
  have u0 : U64 e.owner := by unfold U64; omega
  have u1 : U64 e.number := by unfold U64; omega
  have u2 : U64 e.iDMachine := by unfold U64; omega
  have u3 : U64 e.iDSerial := by unfold U64; omega
  have u4 : U64 e.clas := by unfold U64; omega
  have u5 : U64 e.lastUse := by unfold U64; omega
  have u6 : U64 e.distance := by unfold U64; omega
  have u7 : U64 e.lockMachine := by unfold U64; omega
  have u8 : U64 e.lockSerial := by unfold U64; omega
  have hok : okI e.iDMachine e.iDSerial = true := by
    unfold okI
    simp only [Bool.or_eq_true, Bool.and_eq_true, beq_iff_eq, decide_eq_true_eq]
    omega
  have hI : ∀ r, rdI (uintL e.iDMachine ++ (uintL e.iDSerial ++ r), 0) = ((e.iDMachine, e.iDSerial), (r, 0)) := fun r => by
    unfold rdI
    simp only [rdU_uintL u2, rdU_uintL u3, if_true, hok]
  have h0 : ∀ r, rdE0 (headE e ++ r, 0) = (⟨e.owner, e.number, e.iDMachine, e.iDSerial, 0, 0, 0, false, false, false, 0, 0⟩, (r, 0)) := fun r => by
    unfold rdE0 headE
    simp only [List.append_assoc, rdU_uintL u0, rdU_uintL u1, hI]
    rw [toI_id (by omega) (by omega)]
  have hE : encE e ++ r = headE e ++ (uintL e.clas ++ (uintL e.lastUse ++ (uintL e.distance ++ (uintL e.lockMachine ++ (uintL e.lockSerial ++ (boolL e.touched ++ (boolL e.weak ++ (boolL e.dead ++ r)))))))) := by
    simp [encE, nums, flags]
  rw [hE]
  unfold rdEnt
  rw [h0]
  simp only [rdNs, rdFs, rdU_uintL u4, rdU_uintL u5, rdU_uintL u6, rdU_uintL u7, rdU_uintL u8, rdB_boolL, setN, setF]
  rw [toI_id (by omega) (by omega), toI_id (by omega) (by omega), toI_id (by omega) (by omega), toI_id (by omega) (by omega), toI_id (by omega) (by omega)]
theorem inv_mid {l : List StubE} {e : StubE} {r : List StubE} (h : Inv (l ++ e :: r)) : addErr l e = 0 := by
  have hk := h.keys
  have hi := h.ids
  rw [List.map_append, List.map_cons, List.nodup_append] at hk hi
  have k1 : hasK l (keyE e) = false := by
    cases hh : hasK l (keyE e) with
    | false => rfl
    | true =>
      obtain ⟨j, x, _, hx, hkx⟩ := hasK_true hh
      exact absurd hkx (hk.2.2 _ (List.mem_map_of_mem (List.mem_of_getElem? hx)) _ (by simp))
  have k2 : hasID l (idE e) = false := by
    cases hh : hasID l (idE e) with
    | false => rfl
    | true =>
      unfold hasID at hh
      cases hf : findK idE l (idE e) with
      | none => rw [hf] at hh; cases hh
      | some y =>
        obtain ⟨j, hj, hjy⟩ := findK_some hf
        exact absurd hjy (hi.2.2 _ (List.mem_map_of_mem (List.mem_of_getElem? hj)) _ (by simp))
  unfold addErr
  rw [h.valid e (by simp), k1, k2]; rfl
theorem Inv.perm {l l' : List StubE} (h : Inv l) (hp : l'.Perm l) : Inv l' := ⟨fun e he => h.valid e (hp.mem_iff.1 he), (hp.map keyE).symm.nodup h.keys, (hp.map idE).symm.nodup h.ids⟩
theorem Inv.sub {l l' : List StubE} (h : Inv l) (hs : l'.Sublist l) : Inv l' := ⟨fun e he => h.valid e (hs.subset he), h.keys.sublist (hs.map _), h.ids.sublist (hs.map _)⟩
theorem addN_enc : ∀ (q l : List StubE), Inv (l ++ q) → (∀ e ∈ q, RngE e) → addN q.length (q.flatMap encE, 0) l = some (l ++ q, ([], 0))
  | [], l, _, _ => by simp [addN]
  | e :: q, l, h, hr => by
    have hv := h.valid e (by simp)
    have he := inv_mid h
    have hl : Inv l := h.sub (List.sublist_append_left _ _)
    rw [List.length_cons, List.flatMap_cons, addN, rdEnt_encE hv (hr e (by simp))]
    simp only [he, if_true]
    rw [add_cases hl he, addN_enc q (l ++ [e]) (by rw [List.append_assoc]; exact h) (fun x hx => hr x (List.mem_cons_of_mem _ hx)), List.append_assoc]; rfl
theorem encE_pos (e : StubE) : 1 ≤ (encE e).length := by
  simp only [encE, flags, boolL, List.length_append, List.flatMap_cons, List.flatMap_nil, List.length_cons, List.length_nil]; omega
theorem flat_ge : ∀ q : List StubE, q.length ≤ (q.flatMap encE).length
  | [] => by simp
  | e :: q => by
    have := flat_ge q
    have := encE_pos e
    simp only [List.flatMap_cons, List.length_append, List.length_cons]; omega
theorem decR_enc {q : List StubE} (h : Inv q) (hr : ∀ e ∈ q, RngE e) (hl : q.length ≤ 3000) : decR (encS q) = some (q, ([], 0)) := by
  have hn : U64 (q.length : Int) := by unfold U64; omega
  have hU := rdU_uintL hn (q.flatMap encE)
  have hg := flat_ge q
  have hC : rdC ((encS q).length : Int) (encS q, 0) = ((q.length : Int), (q.flatMap encE, 0)) := by
    unfold rdC
    rw [show encS q = uintL (q.length : Int) ++ q.flatMap encE from rfl, hU]
    have : cntE ((uintL (q.length : Int) ++ q.flatMap encE).length : Int) (q.length : Int) (q.flatMap encE).length = 0 := by
      unfold cntE
      rw [List.length_append, if_neg (by omega), if_neg (by omega)]
    simp only [if_true, this]
  unfold decR cntOf
  rw [hC]
  simp only [Int.toNat_natCast]
  exact addN_enc q [] h hr
theorem decOk_enc {q : List StubE} (h : Inv q) (hs : SortedS q) (hr : ∀ e ∈ q, RngE e) (hl : q.length ≤ 3000) : decOk (encS q) :=
  ⟨q, ([], 0), q, decR_enc h hr hl, by simp [endE], .refl _, hs, rfl⟩
/-! Ranges of a run. -/
def RngC (c : CallE) : Prop := RngE c.ent ∧ c.n < 9223372036854775808
theorem rng_put {l : List StubE} {v : StubE} (h : ∀ e ∈ l, RngE e) (hv : RngE v) : ∀ e ∈ putK keyE l v, RngE e := by
  intro e he
  unfold putK at he
  split at he
  · obtain ⟨x, hx, rfl⟩ := List.mem_map.1 he
    split
    · exact hv
    · exact h x hx
  · rcases List.mem_append.1 he with he | he
    · exact h e he
    · rw [List.mem_singleton] at he; subst he; exact hv
theorem rng_ch {l : List StubE} {F : StubE → StubE} (h : ∀ e ∈ l, RngE e) (hF : ∀ e, RngE e → RngE (F e)) (k : KeyE) : ∀ e ∈ chT F l k, RngE e := by
  unfold chT
  split
  · rename_i x hx
    obtain ⟨j, hj, _⟩ := findK_some hx
    exact rng_put h (hF x (h x (List.mem_of_getElem? hj)))
  · exact h
theorem rng_use {n : Int} (hn : n < 9223372036854775808) {e : StubE} (h : RngE e) : RngE (useE n e) := by
  unfold RngE at h ⊢
  simp only [useE]; omega
theorem rng_call {l : List StubE} (h : ∀ e ∈ l, RngE e) {c : CallE} (hc : RngC c) : ∀ e ∈ callT l c, RngE e := by
  unfold callT
  split
  · unfold addT; split
    · exact rng_put h hc.1
    · exact h
  · split
    · unfold putT; split
      · exact rng_put h hc.1
      · exact h
    · split
      · unfold useT; split
        · exact h
        · exact rng_ch h (fun e he => rng_use hc.2 he) _
      · split
        · exact rng_ch (F := touchE) h (fun e he => he) _
        · split
          · exact fun e he => h e (List.mem_filter.1 he).1
          · split
            · intro e he
              obtain ⟨x, hx, rfl⟩ := List.mem_map.1 he
              exact h x hx
            · exact h
theorem rng_run (cs : List CallE) (hc : ∀ c ∈ cs, RngC c) : ∀ e ∈ runT cs, RngE e := by
  have : ∀ (cs : List CallE) (l : List StubE), (∀ c ∈ cs, RngC c) → (∀ e ∈ l, RngE e) → ∀ e ∈ cs.foldl callT l, RngE e := by
    intro cs
    induction cs with
    | nil => intro l _ h; exact h
    | cons c cs ih => intro l hc h; exact ih _ (fun x hx => hc x (List.mem_cons_of_mem _ hx)) (rng_call h (hc c (List.mem_cons_self ..)))
  exact this cs [] hc (fun e he => by cases he)
theorem encS_len {q : List StubE} (h : Inv q) (hr : ∀ e ∈ q, RngE e) (hl : q.length ≤ 30) : (encS q).length ≤ 2600 := by
  have h1 := uintL_len (n := (q.length : Int)) (by omega)
  have h2 := encFlat_len (q := q) fun e he => ⟨h.valid e he, hr e he⟩
  unfold encS; rw [List.length_append]; omega
theorem bytes_uintL (n : Int) (h : U64 n) : Bytes (uintL n) := by
  intro x hx
  have h8 : (digs n.toNat).length ≤ 8 := digs_len (k := 8) (by have := h.2; omega)
  rcases List.mem_cons.1 hx with rfl | hx
  · omega
  · exact digs_range x hx
theorem Bytes.app {a b : List Int} (ha : Bytes a) (hb : Bytes b) : Bytes (a ++ b) := fun x hx => (List.mem_append.1 hx).elim (ha x) (hb x)
theorem bytes_encE {e : StubE} (hv : validE e = true) (hr : RngE e) : Bytes (encE e) := by
  have hb := validE_bounds hv
  have hn := nums_u64 hv hr
  unfold RngE at hr
  have h1 : Bytes (headE e) := (Bytes.app (bytes_uintL _ (by unfold U64; omega)) (bytes_uintL _ (by unfold U64; omega))).app (Bytes.app (bytes_uintL _ (by unfold U64; omega)) (bytes_uintL _ (by unfold U64; omega)))
  refine (h1.app ?_).app ?_
  · intro x hx
    obtain ⟨n, hn', hx'⟩ := List.mem_flatMap.1 hx
    exact bytes_uintL n (hn n hn') x hx'
  · intro x hx
    obtain ⟨b, _, hx'⟩ := List.mem_flatMap.1 hx
    cases b <;> simp [boolL] at hx' <;> omega
theorem bytes_encS {q : List StubE} (h : Inv q) (hr : ∀ e ∈ q, RngE e) (hl : q.length ≤ 30) : Bytes (encS q) := by
  refine (bytes_uintL _ (by unfold U64; omega)).app ?_
  intro x hx
  obtain ⟨e, he, hx'⟩ := List.mem_flatMap.1 hx
  exact bytes_encE (h.valid e he) (hr e he) x hx'
end Go.Proofs.Ytgddapgdeaeggaa

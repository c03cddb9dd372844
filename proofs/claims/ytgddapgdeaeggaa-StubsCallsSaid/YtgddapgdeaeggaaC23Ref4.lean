/-
  Contracts of the functions of this seat that each theorem names: what a call returns, and that it writes nothing that was there before. The conditions stand in each theorem.
-/
import Derived.Test.YtgddapgdeaeggaaC23Ref3
namespace Go.Proofs.Ytgddapgdeaeggaa
open Go.RowKit
attribute [local simp] heap_drew
def remI (xs : List StubE) (i : Nat) : List StubE := xs.take i ++ xs.drop (i + 1)
def atR (xs : List StubE) (k : KeyE) : Int := idxOf (keyP k.owner k.number) xs
def idR (xs : List StubE) (i : IDE) : Int := idxOf (idP i) xs
def addErrR (xs : List StubE) (e : StubE) : Int := if validE e = false then 1 else if 0 ≤ atR xs (keyE e) ∨ 0 ≤ idR xs (idE e) then 5 else 0
def putErrR (xs : List StubE) (e : StubE) : Int := if validE e = false then 1 else if atR xs (keyE e) < 0 then 6 else if 0 ≤ idR xs (idE e) ∧ idR xs (idE e) ≠ atR xs (keyE e) then 5 else 0
def chErrR (xs : List StubE) (k : KeyE) : Int := if atR xs k < 0 then 6 else 0
def useErrR (n : Int) (xs : List StubE) (k : KeyE) : Int := if n < 0 then 1 else chErrR xs k
def addR (xs : List StubE) (e : StubE) : List StubE := if addErrR xs e = 0 then insR e xs else xs
def putR (xs : List StubE) (e : StubE) : List StubE := if putErrR xs e = 0 then insR e (remI xs (atR xs (keyE e)).toNat) else xs
def chR (F : StubE → StubE) (xs : List StubE) (k : KeyE) : List StubE := if chErrR xs k = 0 then insR (F ((xs[(atR xs k).toNat]?).getD zeroE)) (remI xs (atR xs k).toNat) else xs
def useR (n : Int) (xs : List StubE) (k : KeyE) : List StubE := if n < 0 then xs else chR (useE n) xs k
def rmvR (xs : List StubE) (k : KeyE) : List StubE := if chErrR xs k = 0 then remI xs (atR xs k).toNat else xs
theorem at_lt {p : StubE → Bool} {xs : List StubE} (h : 0 ≤ idxOf p xs) : ∃ (i : Nat) (x : StubE), idxOf p xs = (i : Int) ∧ xs[i]? = some x ∧ p x = true := by
  rcases idxOf_cases p xs with ⟨h1, _⟩ | ⟨i, x, h1, h2, h3, _⟩
  · omega
  · exact ⟨i, x, h1, h2, h3⟩
theorem remI_len {xs : List StubE} {i : Nat} (h : i < xs.length) : (remI xs i).length = xs.length - 1 := by
  unfold remI; rw [List.length_append, List.length_take, List.length_drop]; omega
theorem insR_len (e : StubE) (xs : List StubE) : (insR e xs).length = xs.length + 1 := (insR_perm e xs).length_eq
set_option maxRecDepth 100000 in
set_option maxHeartbeats 4000000 in
theorem refWithout_any (A : Option Addr) (C : Nat) (xs : List StubE) (i : Nat) (w : World) (hs : SlAt StubE.cells 12 w A xs) (hl : xs.length ≤ 1000000) (hc : xs.length ≤ C) (hm : C ≤ maxLen) (hi : i < xs.length) : Calls Try.prog 67 #[.slice A xs.length C, .int .i64 i] w (TabPost w (remI xs i)) := by
  have HS : ∀ u [Later w u], SlAt StubE.cells 12 u A xs := fun u i => hs.below i.below
  have hm' : C ≤ 9223372036854775807 := hm
  obtain ⟨g1, o1, x, rfl, -⟩ := StubE.get (HS w) hi
  have hwr : IntKind.i64.wrap ((i : Int) + 1) = (i : Int) + 1 := by simp [IntKind.wrap, IntKind.bits, IntKind.signed]; omega
  obtain ⟨AD, hAD⟩ : ∃ AD : Option Addr, AD = if C = i + 1 then some ⟨g1, o1, none⟩ else some ⟨g1, o1 + (i + 1) * 12, none⟩ := ⟨_, rfl⟩
  have hsrc : ∀ u [Later w u], SlAt StubE.cells 12 u AD (xs.drop (i + 1)) := fun u j => by
    rw [hAD]
    by_cases h : C = i + 1
    · have h' : xs.length ≤ i + 1 := by omega
      rw [List.drop_eq_nil_of_le h']; exact SlAt.nil
    · rw [if_neg h]; exact SlAt.drop (HS u) (i + 1)
  have Hrem := hide (show xs.take i ++ xs.drop (i + 1) = remI xs i from rfl)
  have htk : (xs.take i).length = i := by rw [List.length_take]; omega
  have hdk : (xs.drop (i + 1)).length = xs.length - (i + 1) := by rw [List.length_drop]
  have HAD := hide hAD
  clear hAD
  go_enter Try.func67, Try.ntmps67
  go_upto_region 1 with fail
  refine wp_name ?_
  intro wz hwz
  have lz := later_name' hwz (inferInstance : Later w _)
  clear hwz
  have hk0 : (0 : Int) ≤ (i : Int) := by omega
  have hkc : (i : Int) ≤ (C : Int) := by omega
  have hkl : (i : Int) ≤ (xs.length : Int) := by omega
  have hk1 : (0 : Int) ≤ (i : Int) + 1 := by omega
  have hkc1 : (i : Int) + 1 ≤ (C : Int) := by omega
  have hkl1 : (i : Int) + 1 ≤ (xs.length : Int) := by omega
  go_region_held3 (fun w' => ∀ b [Later b wz], Later b w') ((intro b _; infer_instance))
    ((first
      | (have ho9 := ho1
         refine step_app (P := Try.prog) rfl (.tmp 9) (.tmp 13) (by rfl) StubE.enc tabT AD _ (xs.drop (i + 1)) (xs.take i) (.slice A1 i c1) (by rfl) (by rw [HAD.out]; rfl) (m := xs.length - (i + 1)) (n := xs.length - 1) hdk (by rw [htk]; omega) (ho1.later _) (hsrc _) (by omega) (by simp [maxLen]; omega) (by first | (simp; done) | (simp; omega) | omega) ?_
         intro A3 c3 w3 ho3 hm3 hb3 hg3
         have l3 := later_base (W := wz) hb3)
      | (refine step_app rfl (.tmp 5) (.tmp 8) (by rfl) StubE.enc tabT _ _ (xs.take i) ([] : List StubE) (.slice (some ⟨_, 0, none⟩) 0 0) (by rfl) (by rfl) htk (Nat.zero_add _) (Own.empty_blk (base := wz.heap.size) (by first | (simp; done) | (simp; omega) | omega) (by (simp only [heap_drew, heap_alloc_if, World.size_alloc]); (repeat (first | rw [if_pos rfl] | rw [if_neg (by omega)] | rw [if_pos (by omega)])); try rfl)) ((HS _).take _) (by omega) (by simp [maxLen]; omega) (by first | (simp; done) | (simp; omega) | omega) ?_
         intro A1 c1 w1 ho1 hm1 hb1 hg1
         have l1 := later_base (W := wz) hb1
         have hz1 : wz.heap.size ≤ w1.heap.size := (l1 wz).below.size)))
  all_goals go_wp2_with fail
  all_goals go_ret
  all_goals exact ⟨_, A3, c3, Hrem, by rw [Hrem.out, remI_len hi]; rfl, (ho3.at_ StubE.enc).2.1, hm3, by rw [Hrem.out] at ho3; exact (ho3.at_ StubE.enc).2.2, below_of⟩
end Go.Proofs.Ytgddapgdeaeggaa

/-
  Small texts of this seat, put into one. Conditions stand in each theorem.
-/
import Derived.Test.YtffnogjgnpbjlaaGrp3
set_option linter.unusedSimpArgs false
set_option linter.unusedVariables false
namespace Go.Proofs.Ytffnogjgnpbjlaa
open Go.RowKit
/-- The list of dominators in memory. -/
def dList (top : Nat) (d : Nat → Int) : List Int := (List.range (top + 1)).map d
theorem dList_len {top : Nat} {d : Nat → Int} : (dList top d).length = top + 1 := by simp [dList]
theorem dList_get {top : Nat} {d : Nat → Int} {i : Nat} (h : i ≤ top) : (dList top d)[i]? = some (d i) := by
  unfold dList
  rw [List.getElem?_map, List.getElem?_range (by omega)]; rfl
theorem dList_set {top : Nat} {d : Nat → Int} {i : Nat} {r : Int} : (dList top d).set i r = dList top (updN d i r) := by
  apply List.ext_getElem?
  intro j
  by_cases hj : j ≤ top
  · rw [dList_get hj, List.getElem?_set]
    by_cases e : i = j
    · subst e; rw [if_pos rfl, if_pos (by rw [dList_len]; omega), updN_at]
    · rw [if_neg e, dList_get hj, updN_ne (fun h => e h.symm)]
  · rw [List.getElem?_eq_none (by rw [List.length_set, dList_len]; omega), List.getElem?_eq_none (by rw [dList_len]; omega)]
theorem int_at {A : Option Addr} {l : List Int} {w : World} (h : SlAt I64.cells 1 w A l) {k : Nat} {x : Int} (hx : l[k]? = some x) : ∃ b off, A = some ⟨b, off, none⟩ ∧ ∀ u [Later w u], u.cell? ⟨b, off + k, none⟩ = some (.int .i64 x) := by
  obtain ⟨b, off, e, hlt, hc⟩ := h (by rintro rfl; simp at hx)
  refine ⟨b, off, e, Later.cell (b := w) ?_⟩
  have := hc k x hx 0 _ rfl
  simpa using this
theorem meet_end {d : Nat → Int} {n a : Nat} : meetF d n a a = a := by cases n <;> simp [meetF]
set_option maxRecDepth 100000 in
set_option maxHeartbeats 2000000 in
theorem meet_any (top : Nat) (P : Nat → List Nat) (d : Nat → Int) (hI : DomInv top P d) (ht : top ≤ 1000000) (b5 gt : Nat) (v0 v1 : Value) (A : Option Addr) (c : Nat) (w : World) (hb : w.heap[b5]? = some (.cells #[.pointer (some ⟨gt, 0, none⟩)] 65 (0, 0)))
    (hg : w.heap[gt]? = some (.cells #[v0, v1, .slice A (top + 1) c] 69 (0, 0))) (hs : SlAt I64.cells 1 w A (dList top d)) (a b : Nat) (ha : a ≤ top) (hbt : b ≤ top) (ha0 : 0 ≤ d a) (hb0 : 0 ≤ d b) :
    Calls Try.prog 52 #[.int .i64 a, .int .i64 b, .pointer (some ⟨b5, 0, none⟩)] w fun r w' => r = .returned (.int .i64 (meetF d (2 * top) a b : Nat)) ∧ Below w.heap.size w w' := by
  obtain ⟨M, hM⟩ : ∃ M, M = meetF d (2 * top) a b := ⟨_, rfl⟩
  rw [← hM]
  have X5 := boxed hb
  have XT := boxed hg
  have HN := hide (show ∀ i, i < top → 0 ≤ d i → ∃ u : Nat, d i = (u : Int) ∧ i < u ∧ u ≤ top ∧ 0 ≤ d u from fun i h1 h2 => by
    rcases hI.up i h1 with e | h
    · omega
    · exact h)
  have HM := hide hM
  clear hM hI
  go_enter Try.func52, Try.ntmps52
  go_upto_region 1 with fail
  go_loopw [0, 1] (fun av bv wr => ∃ a' b' n : Nat, av = .int .i64 a' ∧ bv = .int .i64 b' ∧ a' ≤ top ∧ b' ≤ top ∧ Hid (0 ≤ d a' ∧ 0 ≤ d b') ∧ Hid ((top - a') + (top - b') ≤ n ∧ meetF d n a' b' = M) ∧ Below w.heap.size w wr) (fun av bv _ => (top - (intOf av).toNat) + (top - (intOf bv).toNat))
  case atStart => exact ⟨a, b, 2 * top, rfl, rfl, ha, hbt, hide ⟨ha0, hb0⟩, hide ⟨by omega, HM.out.symm⟩, Below.refl _ _⟩
  case round =>
    obtain ⟨a', b', n, rfl, rfl, ha', hb', hd, hn, hbr⟩ := hrel
    have lr := later hbr
    by_cases hab : a' = b'
    · subst hab
      have hne : ((a' : Int) != (a' : Int)) = false := by simp
      have hMe := hide (show (M : Int) = (a' : Int) by rw [← hn.out.2, meet_end])
      go_wp2_with fail
      go_ret
      exact ⟨ret_int hMe.out.symm, below_of⟩
    have hne : ((a' : Int) != (b' : Int)) = true := by simp; omega
    by_cases hlt : a' < b'
    · have hlti : decide ((a' : Int) < (b' : Int)) = true := by simpa using hlt
      obtain ⟨u, hu, h1, h2, h3⟩ := HN.out a' (by omega) hd.out.1
      obtain ⟨b9, o9, rfl, C1⟩ := int_at hs (dList_get ha')
      rw [hu] at C1
      have hai : (a' : Int) < (top : Int) + 1 := by omega
      have Hn := hide (show ∃ n', (top - u) + (top - b') ≤ n' ∧ meetF d n' u b' = M by
        obtain ⟨h4, h5⟩ := hn.out
        obtain ⟨n', rfl⟩ : ∃ n', n = n' + 1 := ⟨n - 1, by omega⟩
        refine ⟨n', by omega, ?_⟩
        unfold meetF at h5
        rw [if_neg hab, if_pos hlt, hu, Int.toNat_natCast] at h5
        exact h5)
      have Hd := hide (show 0 ≤ d u ∧ 0 ≤ d b' from ⟨h3, hd.out.2⟩)
      clear hu h3
      go_wp2_with fail
      go_roundw
      case rel =>
        obtain ⟨n', h6⟩ := Hn.out
        exact ⟨u, b', n', rfl, rfl, h2, hb', Hd, hide h6, below_of⟩
      case measure => simp [intOf]; omega
    · have hlti : decide ((a' : Int) < (b' : Int)) = false := by simp; omega
      obtain ⟨u, hu, h1, h2, h3⟩ := HN.out b' (by omega) hd.out.2
      obtain ⟨b9, o9, rfl, C1⟩ := int_at hs (dList_get hb')
      rw [hu] at C1
      have hai : (b' : Int) < (top : Int) + 1 := by omega
      have Hn := hide (show ∃ n', (top - a') + (top - u) ≤ n' ∧ meetF d n' a' u = M by
        obtain ⟨h4, h5⟩ := hn.out
        obtain ⟨n', rfl⟩ : ∃ n', n = n' + 1 := ⟨n - 1, by omega⟩
        refine ⟨n', by omega, ?_⟩
        unfold meetF at h5
        rw [if_neg hab, if_neg hlt, hu, Int.toNat_natCast] at h5
        exact h5)
      have Hd := hide (show 0 ≤ d a' ∧ 0 ≤ d u from ⟨hd.out.1, h3⟩)
      clear hu h3
      go_wp2_with fail
      go_roundw
      case rel =>
        obtain ⟨n', h6⟩ := Hn.out
        exact ⟨a', u, n', rfl, rfl, ha', h2, Hd, hide h6, below_of⟩
      case measure => simp [intOf]; omega
end Go.Proofs.Ytffnogjgnpbjlaa

namespace Go.Proofs.Ytffnogjgnpbjlaa
open Go.RowKit
structure PrE where
  A : Option Addr
  c : Nat
  l : List Int
def PrE.cells (x : PrE) : List Value := [.slice x.A x.l.length x.c]
abbrev PrE.v (x : PrE) : Value := .slice x.A x.l.length x.c
theorem PrE.enc : Enc PrE.cells 1 := ⟨fun _ => rfl, fun x u hu => by simp only [PrE.cells, List.mem_cons, List.not_mem_nil, or_false] at hu; subst hu; rfl, by decide⟩
theorem I64.enc : Enc I64.cells 1 := ⟨fun _ => rfl, fun x u hu => by simp only [I64.cells, List.mem_singleton] at hu; rw [hu]; rfl, by decide⟩
/-- Only blocks of integers and of their slices have changed, from B on. -/
def IntT (B : Nat) (w : World) (k : Nat) : Prop := B ≤ k ∧ ∃ cs t, w.heap[k]? = some (.cells cs t (0, 0)) ∧ (t = 3 ∨ t = 32)
def OnlyI (B : Nat) (w w' : World) : Prop := Only (IntT B w) w w'
theorem OnlyI.refl {B : Nat} {w : World} : OnlyI B w w := Only.refl
theorem OnlyI.trans {B : Nat} {w w' w'' : World} (h : OnlyI B w w') (k : OnlyI B w' w'') : OnlyI B w w'' := Only.trans' h k fun j hj hs => by
  by_cases hn : IntT B w j
  · exact hn
  · obtain ⟨hB, cs, t, h1, h2⟩ := hs
    rw [h.block j hj hn] at h1
    exact ⟨hB, cs, t, h1, h2⟩
theorem OnlyI.base {B : Nat} {w w' : World} (h : OnlyI B w w') (hB : B ≤ w.heap.size) : Below B w w' := Only.below h (fun _ hk => hk.1) hB
theorem OnlyI.of_below {B : Nat} {w w' : World} (h : Below w.heap.size w w') : OnlyI B w w' := Only.of_below h
theorem OnlyI.cells {B : Nat} {w w' : World} (h : OnlyI B w w') {k : Nat} {cs : Array Value} {t : TypeId} {fr : Nat × Nat} (hk : w.heap[k]? = some (.cells cs t fr)) (h1 : t ≠ 3) (h2 : t ≠ 32) : w'.heap[k]? = some (.cells cs t fr) :=
  Only.boxed h hk fun ⟨_, cs', t', e, ht⟩ => by
    rw [hk] at e
    injection e with e
    injection e with _ e _
    rcases ht with ht | ht
    · exact h1 (e.trans ht)
    · exact h2 (e.trans ht)
theorem OnlyI.mapFn {κ ν : Type} {fk : κ → Value} {fv : ν → Value} {g : Nat} {M : κ → Option ν} {B : Nat} {w w' : World} (h : OnlyI B w w') (hM : MapFn fk fv w g M) : MapFn fk fv w' g M := by
  obtain ⟨es, ck, hm⟩ := mapFn_obj hM
  exact hM.of_heap (h.block g hM.lt fun ⟨_, cs, t, e, _⟩ => by rw [hm] at e; cases e)
theorem OnlyI.own {α : Type} {f : α → List Value} {s : Nat} {e : TypeId} {base : Nat} {v : Value} {l : List α} {B : Nat} {w w' : World} (h : OnlyI B w w') (ho : Own f s e base w v l) (h1 : e ≠ 3) (h2 : e ≠ 32) : Own f s e base w' v l :=
  Only.own h ho fun g hg ⟨_, cs', t', e1, ht⟩ => by
    obtain ⟨cs, hc⟩ := own_type ho hg
    rw [hc] at e1
    injection e1 with e1
    injection e1 with _ e1 _
    rcases ht with ht | ht
    · exact h1 (e1.trans ht)
    · exact h2 (e1.trans ht)
structure PredsSt (B : Nat) (w : World) (PA : Option Addr) (PC : Nat) (ps : List PrE) : Prop where
  o : Own PrE.cells 1 32 B w (.slice PA ps.length PC) ps
  e : ∀ x ∈ ps, Own I64.cells 1 3 B w x.v x.l
  d : ∀ (i j : Nat) (x y : PrE), i ≠ j → ps[i]? = some x → ps[j]? = some y → ∀ g, x.v.ownBlock = some g → y.v.ownBlock ≠ some g
section
variable {B : Nat} {w w' : World} {PA : Option Addr} {PC : Nat} {ps : List PrE}
theorem PredsSt.below (h : PredsSt B w PA PC ps) (hb : Below w.heap.size w w') : PredsSt B w' PA PC ps := ⟨h.o.below hb, fun x hx => (h.e x hx).below hb, h.d⟩
theorem intT_own {α : Type} {f : α → List Value} {s : Nat} {e : TypeId} {base : Nat} {v : Value} {l : List α} (h : Own f s e base w v l) (he : e = 3 ∨ e = 32) {k : Nat} (hk : v.ownBlock = some k) : IntT base w k := by
  obtain ⟨cs, hc⟩ := own_type h hk
  exact ⟨(World.ownsRow.lt h _ hk).1, cs, e, hc, he⟩
/-- One list has grown, and its slice is written back. -/
theorem PredsSt.push (h : PredsSt B w PA PC ps) {k gP : Nat} {x : PrE} {A' : Option Addr} {c' : Nat} {n : Int} (hx : ps[k]? = some x) (hP : PA = some ⟨gP, 0, none⟩) {w1 : World} (hst : Step w w1 x.v (.slice A' (x.l.length + 1) c')) (ho : Own I64.cells 1 3 B w1 (.slice A' (x.l.length + 1) c') (x.l ++ [n])) :
    PredsSt B (w1.setCell ⟨gP, k, none⟩ (.slice A' (x.l.length + 1) c')) PA PC (ps.set k ⟨A', c', x.l ++ [n]⟩) ∧ OnlyI B w (w1.setCell ⟨gP, k, none⟩ (.slice A' (x.l.length + 1) c')) := by
  have hxo := h.e x (List.mem_of_getElem? hx)
  have hP1 : Own PrE.cells 1 32 B w1 (.slice PA ps.length PC) ps := own_grownOwn hxo hst.1 h.o (by decide)
  subst hP
  have hlen : (x.l ++ [n]).length = x.l.length + 1 := by simp
  have hPt : ∃ cs, w1.heap[gP]? = some (.cells cs 32 (0, 0)) := own_type hP1 rfl
  have hPw : ∃ cs, w.heap[gP]? = some (.cells cs 32 (0, 0)) := own_type h.o rfl
  refine ⟨⟨?_, ?_, ?_⟩, ?_⟩
  · have := hP1.store PrE.enc (k := k) (j := 0) (x := x) (x' := ⟨A', c', x.l ++ [n]⟩) (u := .slice A' (x.l.length + 1) c') hx (by omega) (by simp [PrE.cells])
    rw [List.length_set]
    simpa using this
  · intro y hy
    obtain ⟨j, hj⟩ := List.getElem?_of_mem hy
    have key : ∀ {v : Value} {l : List Int}, Own I64.cells 1 3 B w1 v l → Own I64.cells 1 3 B (w1.setCell ⟨gP, k, none⟩ (.slice A' (x.l.length + 1) c')) v l := fun hv => by
      obtain ⟨cs, hc⟩ := hPt
      exact hv.far (p := ⟨gP, k, none⟩) (own_off hv hc (by decide)) _
    rw [List.getElem?_set] at hj
    split at hj
    · split at hj
      · injection hj with hj
        subst hj
        refine key ?_
        show Own I64.cells 1 _ B w1 (.slice A' (x.l ++ [n]).length c') (x.l ++ [n])
        rw [hlen]; exact ho
      · cases hj
    · rename_i hne
      have hy2 := h.e y (List.mem_of_getElem? hj)
      refine key (hy2.kept hst.1 ?_)
      cases hv : y.v.ownBlock with
      | none => exact .inl rfl
      | some g => exact .inr fun e => h.d j k y x (fun e => hne e.symm) hj hx g hv e.symm
  · intro i j y z hij hy hz g hg hg'
    have fresh : ∀ {q : PrE} {m : Nat}, m ≠ k → ps[m]? = some q → q.v.ownBlock = some g → (Value.slice A' (x.l.length + 1) c').ownBlock = some g → False := fun {q m} hm hq hqg hng => by
      rcases hst.2 with e | ⟨g', h1, h2⟩
      · rw [e] at hng; exact h.d m k q x hm hq hx g hqg hng
      · rw [h2] at hng
        injection hng with hng
        have := (World.ownsRow.lt (h.e q (List.mem_of_getElem? hq)) g hqg).2
        omega
    rw [List.getElem?_set] at hy hz
    split at hy <;> split at hz
    · omega
    · split at hy
      · injection hy with hy; subst hy
        rename_i e1 e2 _
        rw [show (PrE.v ⟨A', c', x.l ++ [n]⟩) = .slice A' (x.l.length + 1) c' by simp [PrE.v]] at hg
        exact fresh (fun e => e2 e.symm) hz hg' hg
      · cases hy
    · split at hz
      · injection hz with hz; subst hz
        rename_i e1 e2 _
        rw [show (PrE.v ⟨A', c', x.l ++ [n]⟩) = .slice A' (x.l.length + 1) c' by simp [PrE.v]] at hg'
        exact fresh (fun e => e1 e.symm) hy hg hg'
      · cases hz
    · exact h.d i j y z hij hy hz g hg hg'
  · refine Only.setCell ((only_grown hst.1).mono fun j _ hj => intT_own hxo (.inl rfl) hj) (.inl ?_) _
    obtain ⟨cs, hc⟩ := hPw
    exact ⟨(World.ownsRow.lt h.o _ rfl).1, cs, _, hc, .inr rfl⟩
end
end Go.Proofs.Ytffnogjgnpbjlaa

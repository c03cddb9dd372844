/-
  Small texts of this seat, put into one. Conditions stand in each theorem.
-/
import Derived.Test.YtffnogjgnpbjlaaInvLib
import Derived.Test.YtffnogjgnpbjlaaGrp7
import Derived.Test.YtffnogjgnpbjlaaGrp8
import Derived.Test.YtffnogjgnpbjlaaD58Few
import Derived.Laws.EntriesVeiled
import Derived.Test.YtffnogjgnpbjlaaGrp1
set_option linter.unusedSimpArgs false
set_option linter.unusedVariables false
namespace Go.Proofs.Ytffnogjgnpbjlaa
open Go.RowKit
attribute [local go_sem] Oper.semAt_some Instr.makeFunc
attribute [local simp] heap_drew
set_option maxRecDepth 100000 in
set_option maxHeartbeats 1000000 in
theorem awId_any (n : Int) (w : World) : Calls Try.prog 31 #[.int .i64 n] w fun r w' => r = .returned (.agg #[.int .i64 1, .int .i64 n]) ∧ Below w.heap.size w w' := by
  go_enter Try.func31, Try.ntmps31
  go_upto_region 1 with fail
  refine wp_name ?_
  intro w1 hw1
  obtain ⟨B0, l1⟩ := box1 hw1
  clear hw1
  have l11 : Later w1 w1 := Later.refl
  go_wp2_with fail
  have h8 := blk_set (blk_set (B0 w1).1 0 (.int .i64 1)) 1 (.int .i64 n)
  simp only [List.setIfInBounds_toArray, List.set_cons_zero, List.set_cons_succ] at h8
  have r0 := blk_cell h8 0
  have r1 := blk_cell h8 1
  simp at r0 r1
  refine bodyPost_ret (v := .agg #[.int .i64 1, .int .i64 n]) (by simp [results, Try.results31, go_sem, r0, r1]) rfl ⟨rfl, ?_⟩
  exact ((l1 w).below.setCell (p := ⟨w.heap.size, 0, none⟩) (Nat.le_refl _) _).setCell (p := ⟨w.heap.size, 1, none⟩) (Nat.le_refl _) _
set_option maxRecDepth 100000 in
set_option maxHeartbeats 1000000 in
theorem awRef_any (n : Int) (b : Nat) (w : World) (hb : w.heap[b]? = some (.cells #[.func (.func 31) #[] #[]] 60 (0, 0))) : Calls Try.prog 32 #[.int .i64 n, .pointer (some ⟨b, 0, none⟩)] w fun r w' => r = .returned (.agg #[.int .i64 2, .int .i64 0, .int .i64 1, .int .i64 n]) ∧ Below w.heap.size w w' := by
  have BB := boxed hb
  go_enter Try.func32, Try.ntmps32
  go_upto_region 1 with fail
  refine wp_name ?_
  intro w1 hw1
  obtain ⟨B0, l1⟩ := box1 hw1
  clear hw1
  have l11 : Later w1 w1 := Later.refl
  go_wp2_with (go_at_call 31; refine (awId_any _ _).mono ?_; rintro r w2 ⟨rfl, hb2⟩; have l2 := later hb2; have l22 : Later w2 w2 := Later.refl)
  have l2' := l2 w1
  have h8 := blk_set (blk_set (blk_set (blk_set (B0 w2).1 0 (.int .i64 2)) 1 (.int .i64 0)) 2 (.int .i64 1)) 3 (.int .i64 n)
  simp only [List.setIfInBounds_toArray, List.set_cons_zero, List.set_cons_succ] at h8
  have r0 := blk_cell h8 0
  have r1 := blk_cell h8 1
  have r2 := blk_cell h8 2
  have r3 := blk_cell h8 3
  simp at r0 r1 r2 r3
  refine bodyPost_ret (v := .agg #[.int .i64 2, .int .i64 0, .int .i64 1, .int .i64 n]) (by simp [results, Try.results32, go_sem, r0, r1, r2, r3]) rfl ⟨rfl, ?_⟩
  exact ((((((l1 w).trans l2').below).setCell (p := ⟨w.heap.size, 0, none⟩) (Nat.le_refl _) _).setCell (p := ⟨w.heap.size, 1, none⟩) (Nat.le_refl _) _).setCell (p := ⟨w.heap.size, 2, none⟩) (Nat.le_refl _) _).setCell (p := ⟨w.heap.size, 3, none⟩) (Nat.le_refl _) _
end Go.Proofs.Ytffnogjgnpbjlaa

namespace Go.Proofs.Ytffnogjgnpbjlaa
open Go.RowKit
attribute [local go_sem] Oper.semAt_some Instr.makeFunc
attribute [local simp] heap_drew
abbrev fvId : Value := .func (.func 31) #[] #[]
abbrev fvRef (b : Nat) : Value := .func (.func 32) #[] #[.pointer (some ⟨b, 0, none⟩)]
abbrev vId (n : Int) : Value := .agg #[.int .i64 1, .int .i64 n]
abbrev vRef (n : Int) : Value := .agg #[.int .i64 2, .int .i64 0, .int .i64 1, .int .i64 n]
abbrev cRef1 (n : Int) : Array Value := #[.int .i64 2, .int .i64 0, .int .i64 1, .int .i64 n]
abbrev cRef2 (n m : Int) : Array Value := #[.int .i64 2, .int .i64 0, .int .i64 1, .int .i64 n, .int .i64 2, .int .i64 0, .int .i64 1, .int .i64 m]
abbrev sl1 (g n : Nat) : Value := .slice (some ⟨g, 0, none⟩) n n
abbrev vNode (k : Int) (x : Value) : Value := .agg #[.int .i64 1, .int .i64 k, .int .i64 0, .int .i64 1, x]
/-- The example's nodes lie at g. -/
def exN (g : Nat) (u : World) : Prop := ∃ ns : List NodeE, conL ns = eL ∧ ns.length = 5 ∧ NodesAt u (some ⟨g, 0, none⟩) ns
theorem exN_later {g : Nat} {u u' : World} (l : Later u u') (h : exN g u) : exN g u' := by
  obtain ⟨ns, h1, h2, h3⟩ := h
  exact ⟨ns, h1, h2, h3.below l.below⟩
theorem exN_of {u : World} {g g1 g2 g3 g4 : Nat} (h1 : u.heap[g1]? = some (.cells (cRef2 2 3) 62 (0, 0))) (h2 : u.heap[g2]? = some (.cells (cRef1 4) 62 (0, 0))) (h3 : u.heap[g3]? = some (.cells (cRef1 4) 62 (0, 0))) (h4 : u.heap[g4]? = some (.cells (cRef1 5) 62 (0, 0)))
    (h : u.heap[g]? = some (.cells #[.int .i64 1, .int .i64 1, .int .i64 0, .int .i64 1, sl1 g1 2, .int .i64 1, .int .i64 2, .int .i64 0, .int .i64 1, sl1 g2 1, .int .i64 1, .int .i64 3, .int .i64 0, .int .i64 1, sl1 g3 1, .int .i64 1, .int .i64 4, .int .i64 0, .int .i64 1, sl1 g4 1, .int .i64 1, .int .i64 5, .int .i64 0, .int .i64 1, .slice none 0 0] 56 (0, 0))) : exN g u := by
  refine ⟨[⟨1, 1, 0, 1, some ⟨g1, 0, none⟩, 2, [rfV 2, rfV 3]⟩, ⟨1, 2, 0, 1, some ⟨g2, 0, none⟩, 1, [rfV 4]⟩, ⟨1, 3, 0, 1, some ⟨g3, 0, none⟩, 1, [rfV 4]⟩, ⟨1, 4, 0, 1, some ⟨g4, 0, none⟩, 1, [rfV 5]⟩, ⟨1, 5, 0, 1, none, 0, []⟩], rfl, rfl, ⟨blk_slAt NodeE.enc (fr := (0, 0)) (e := 56) h _ rfl, fun n hn => ?_, fun n hn => ?_⟩⟩
  · simp only [List.mem_cons, List.not_mem_nil, or_false] at hn
    rcases hn with rfl | rfl | rfl | rfl | rfl
    · exact blk_slAt ValE.enc (fr := (0, 0)) (e := 62) h1 _ rfl
    · exact blk_slAt ValE.enc (fr := (0, 0)) (e := 62) h2 _ rfl
    · exact blk_slAt ValE.enc (fr := (0, 0)) (e := 62) h3 _ rfl
    · exact blk_slAt ValE.enc (fr := (0, 0)) (e := 62) h4 _ rfl
    · exact SlAt.nil
  · simp only [List.mem_cons, List.not_mem_nil, or_false] at hn
    rcases hn with rfl | rfl | rfl | rfl | rfl <;> simp [maxLen]
/-- The same, by blocks. -/
def exB (g : Nat) (u : World) : Prop := ∃ g1 g2 g3 g4, u.heap[g1]? = some (.cells (cRef2 2 3) 62 (0, 0)) ∧ u.heap[g2]? = some (.cells (cRef1 4) 62 (0, 0)) ∧ u.heap[g3]? = some (.cells (cRef1 4) 62 (0, 0)) ∧ u.heap[g4]? = some (.cells (cRef1 5) 62 (0, 0)) ∧
  u.heap[g]? = some (.cells #[.int .i64 1, .int .i64 1, .int .i64 0, .int .i64 1, sl1 g1 2, .int .i64 1, .int .i64 2, .int .i64 0, .int .i64 1, sl1 g2 1, .int .i64 1, .int .i64 3, .int .i64 0, .int .i64 1, sl1 g3 1, .int .i64 1, .int .i64 4, .int .i64 0, .int .i64 1, sl1 g4 1, .int .i64 1, .int .i64 5, .int .i64 0, .int .i64 1, .slice none 0 0] 56 (0, 0))
theorem exB.exN {g : Nat} {u : World} (h : exB g u) : exN g u := by
  obtain ⟨g1, g2, g3, g4, h1, h2, h3, h4, h5⟩ := h
  exact exN_of h1 h2 h3 h4 h5
theorem exB_later {g : Nat} {u u' : World} (l : Later u u') (h : exB g u) : exB g u' := by
  obtain ⟨g1, g2, g3, g4, h1, h2, h3, h4, h5⟩ := h
  exact ⟨g1, g2, g3, g4, blk_below h1 l.below, blk_below h2 l.below, blk_below h3 l.below, blk_below h4 l.below, blk_below h5 l.below⟩
theorem far_type {u : World} {g k : Nat} {cs ds : Array Value} {t t' : TypeId} {fr fr' : Nat × Nat} (h : u.heap[g]? = some (.cells cs t fr)) (hk : u.heap[k]? = some (.cells ds t' fr')) (hn : t ≠ t') {i : Nat} {v : Value} : (u.setCell ⟨k, i, none⟩ v).heap[g]? = some (.cells cs t fr) :=
  (blk_far (p := ⟨k, i, none⟩) (fun e => by
    have e : g = k := e
    subst e
    rw [h] at hk
    injection hk with hk
    injection hk with _ hk _
    exact hn hk) v).trans h
theorem exB_far {g k i : Nat} {u : World} {cs : Array Value} {fr : Nat × Nat} {v : Value} (hk : u.heap[k]? = some (.cells cs 24 fr)) (h : exB g u) : exB g (u.setCell ⟨k, i, none⟩ v) := by
  obtain ⟨g1, g2, g3, g4, h1, h2, h3, h4, h5⟩ := h
  exact ⟨g1, g2, g3, g4, far_type h1 hk (by decide), far_type h2 hk (by decide), far_type h3 hk (by decide), far_type h4 hk (by decide), far_type h5 hk (by decide)⟩
def Spec.nodes (f : Nat → Value) : Spec := ⟨fun v u => ∃ g, v = f g ∧ exB g u, fun _ _ _ l ⟨g, h1, h2⟩ => ⟨g, h1, exB_later l h2⟩⟩
/-- f of a block from B on that holds these cells. -/
def Spec.blkN (B : Nat) (f : Nat → Value) (cs : Array Value) (t : TypeId) : Spec := ⟨fun v w => ∃ g, B ≤ g ∧ v = f g ∧ w.heap[g]? = some (.cells cs t (0, 0)), fun _ _ _ l ⟨g, h0, h1, h2⟩ => ⟨g, h0, h1, blk_below h2 l.below⟩⟩
end Go.Proofs.Ytffnogjgnpbjlaa

namespace Go.Proofs.Ytffnogjgnpbjlaa
open Go.RowKit
attribute [local go_sem] Oper.semAt_some
attribute [local simp] heap_drew
set_option maxRecDepth 100000 in
set_option maxHeartbeats 2000000 in
theorem ints06_any (aA : Option Addr) (aC : Nat) (a : List Int) (bA : Option Addr) (bC : Nat) (b : List Int) (w : World) (ha : SlAt I64.cells 1 w aA a) (hb : SlAt I64.cells 1 w bA b) (hal : a.length ≤ 1000000000) (hbl : b.length ≤ 1000000000) :
    Calls Try.prog 17 #[.slice aA a.length aC, .slice bA b.length bC] w fun r w' => ∃ q : Bool, r = .returned (.bool q) ∧ (q = true ↔ a = b) ∧ Below w.heap.size w w' := by
  by_cases hl : a.length = b.length
  rotate_left
  · have hl' : ((a.length : Int) != (b.length : Int)) = true := by simp; omega
    have Hl := hide hl
    clear hl
    go_enter Try.func17, Try.ntmps17
    go_wp2
    go_ret
    exact ⟨false, rfl, ⟨(fun h => by cases h), fun h => absurd (congrArg List.length h) Hl.out⟩, Below.refl _ _⟩
  have Hl := hide hl
  have hl' : ((a.length : Int) != (b.length : Int)) = false := by simp [hl]
  clear hl
  go_enter Try.func17, Try.ntmps17
  go_wp2
  go_loopw [5] (fun i wr => ∃ k : Nat, k ≤ a.length ∧ i = .int .i64 k ∧ (∀ (j : Nat) (x y : Int), j < k → a[j]? = some x → b[j]? = some y → x = y) ∧ Below w.heap.size w wr) (fun i _ => a.length - (intOf i).toNat)
  case atStart => exact ⟨0, by omega, rfl, fun j _ _ h => absurd h (by omega), Below.refl _ _⟩
  case round =>
    obtain ⟨k, hk, rfl, hall, hbw⟩ := hrel
    have lr := later hbw
    have Hall := hide hall
    clear hall
    by_cases hlt : k < a.length
    · have hlt2 : k < b.length := by rw [← Hl.out]; exact hlt
      have h1i : (k : Int) < (a.length : Int) := by omega
      have h2i : (k : Int) < (b.length : Int) := by omega
      obtain ⟨x, hx⟩ : ∃ x, a[k]? = some x := ⟨_, List.getElem?_eq_getElem hlt⟩
      obtain ⟨y, hy⟩ : ∃ y, b[k]? = some y := ⟨_, List.getElem?_eq_getElem hlt2⟩
      obtain ⟨g1, o1, rfl, C1⟩ := int_at ha hx
      obtain ⟨g2, o2, rfl, C2⟩ := int_at hb hy
      have Hx := hide hx
      have Hy := hide hy
      clear hx hy
      go_upto_region 6 with fail
      (refine wp_region_after (by kernel_rfl) (by kernel_rfl) ?_
       repeat (any_goals (first | go_big_quiet_skip | (go_big_quiet_want; go_big_quiet_op; first | go_big_quiet_on | go_big_quiet_call (fail)) | quiet_step (fail) | (refine wpQuiet_step (fun K hK => ?_); go_simp; split <;> (refine hK _ ?_; clear hK K))))
       all_goals (refine wpQuiet_nil ?_; intro _ hw'; obtain ⟨u', hw''⟩ := hw'; subst hw''; obtain ⟨wd, hbd⟩ := u'; simp only [After.val_mk]))
      have ld := later hbd
      by_cases he : x = y
      · subst he
        go_wp2_with fail
        go_roundw
        case rel => exact ⟨k + 1, by omega, by go_num, fun j x' y' hj h1 h2 => by
          rcases Nat.lt_or_ge j k with h | h
          · exact Hall.out j x' y' h h1 h2
          · have : j = k := by omega
            subst this
            rw [Hx.out] at h1; rw [Hy.out] at h2
            injection h1 with h1; injection h2 with h2; rw [← h1, ← h2], hbw.trans (hbd.mono hbw.size)⟩
        case measure => simp [intOf]; omega
      · have hne : (x != y) = true := by simpa using he
        have Hne := hide he
        clear he
        go_wp2_with fail
        go_ret
        exact ⟨false, rfl, ⟨(fun h => by cases h), fun h => absurd (by have h1 := Hx.out; rw [h, Hy.out] at h1; injection h1 with h1; exact h1.symm) Hne.out⟩, below_of⟩
    · have hk' : k = a.length := by omega
      subst hk'
      go_wp2_with fail
      go_ret
      refine ⟨true, rfl, ⟨fun _ => ?_, fun _ => rfl⟩, hbw⟩
      apply List.ext_getElem Hl.out
      intro j h1 h2
      exact Hall.out j _ _ h1 (List.getElem?_eq_getElem h1) (List.getElem?_eq_getElem h2)
/-! ### The example -/
abbrev allL : List IDE := [iD 1, iD 2, iD 3, iD 4, iD 5]
abbrev upL : List IDE := [⟨0, 0⟩, iD 1, iD 1, iD 1, iD 4]
abbrev szL : List Int := [20, 4, 4, 8, 4]
def Spec.sl {α : Type} (f : α → List Value) (s : Nat) (l : List α) : Spec := ⟨fun v u => ∃ A c, v = .slice A l.length c ∧ SlAt f s u A l, fun _ _ _ l ⟨A, c, h1, h2⟩ => ⟨A, c, h1, h2.below l.below⟩⟩
def Spec.tup (a b : Spec) : Spec := ⟨fun v u => ∃ x y, v = .tuple #[x, y] ∧ a.r x u ∧ b.r y u, fun _ _ _ l ⟨x, y, h1, h2, h3⟩ => ⟨x, y, h1, a.mono _ _ _ l h2, b.mono _ _ _ l h3⟩⟩
theorem ex_flds {ns : List NodeE} (h : conL ns = eL) : ∀ n ∈ ns, n.fields.length ≤ 10000 := fun n hn => by
  have : n.con ∈ eL := by rw [← h]; exact List.mem_map.2 ⟨n, hn, rfl⟩
  have h2 : n.con.fields.length = n.fields.length := by simp [NodeE.con]
  rw [← h2]
  simp only [eL, List.mem_cons, List.not_mem_nil, or_false] at this
  rcases this with e | e | e | e | e <;> rw [e] <;> decide
theorem exDoms {g : Nat} {u : World} {RA : Option Addr} {rc : Nat} (h : exN g u) (hR : SlAt IDE.cells 2 u RA [iD 1]) : Calls Try.prog 12 #[.agg #[sl1 g 5], .slice RA 1 rc] u fun r u' => ∃ v, r = .returned v ∧ (Spec.tup (.sl IDE.cells 2 allL) (.sl IDE.cells 2 upL)).r v u' ∧ Below u.heap.size u u' := by
  obtain ⟨ns, h1, h2, H⟩ := h
  have := doms_any (some ⟨g, 0, none⟩) 5 ns RA rc [iD 1] u H hR (by omega) (ex_flds h1) (by simp)
  rw [h2, h1] at this
  refine this.mono ?_
  rintro r u' ⟨q, z, A, c, B, e, rfl, hq, hA, hB, hb⟩
  obtain ⟨hq1, hq2, ids, d, T⟩ := hq.out
  have e1 : q = allL := sortedI_unique hq1.1 e_all.1 fun x => (hq1.2 x).trans (e_all.2 x).symm
  subst e1
  have e2 : z = upL := hq2.unique T e_doms
  subst e2
  exact ⟨_, rfl, ⟨_, _, rfl, ⟨A, c, rfl, (hA.at_ IDE.enc).2.2⟩, ⟨B, e, rfl, (hB.at_ IDE.enc).2.2⟩⟩, hb⟩
theorem exSizes {g : Nat} {u : World} {RA : Option Addr} {rc : Nat} (h : exN g u) (hR : SlAt IDE.cells 2 u RA [iD 1]) : Calls Try.prog 15 #[.agg #[sl1 g 5], .slice RA 1 rc] u fun r u' => ∃ v, r = .returned v ∧ (Spec.tup (.sl IDE.cells 2 allL) (.sl I64.cells 1 szL)).r v u' ∧ Below u.heap.size u u' := by
  obtain ⟨ns, h1, h2, H⟩ := h
  have := sizes_any (some ⟨g, 0, none⟩) 5 ns RA rc [iD 1] u H hR (by omega) (ex_flds h1) (by simp)
  rw [h2, h1] at this
  refine this.mono ?_
  rintro r u' ⟨q, z, A, c, B, e, rfl, hq, hA, hB, _, hb⟩
  obtain ⟨hq1, hq2, _⟩ := hq.out
  have e1 : q = allL := sortedI_unique hq1.1 e_all.1 fun x => (hq1.2 x).trans (e_all.2 x).symm
  subst e1
  have e2 : z = szL := hq2.unique e_sizes
  subst e2
  exact ⟨_, rfl, ⟨_, _, rfl, ⟨A, c, rfl, (hA.at_ IDE.enc).2.2⟩, ⟨B, e, rfl, (hB.at_ I64.enc).2.2⟩⟩, hb⟩
theorem exRet {g : Nat} {u : World} {RA : Option Addr} {rc : Nat} (h : exN g u) (hR : SlAt IDE.cells 2 u RA [iD 1]) : Calls Try.prog 23 #[.agg #[sl1 g 5], vId 4, .slice RA 1 rc] u fun r u' => ∃ v, r = .returned v ∧ (Spec.sl IDE.cells 2 [iD 4, iD 5]).r v u' ∧ Below u.heap.size u u' := by
  obtain ⟨ns, h1, h2, H⟩ := h
  have := ret_any (some ⟨g, 0, none⟩) 5 ns (iD 4) RA rc [iD 1] u H hR (by omega) (ex_flds h1) (by simp)
  rw [h2, h1] at this
  refine this.mono ?_
  rintro r u' ⟨q, A, c, rfl, hq, hA, hb⟩
  have e1 : q = [iD 4, iD 5] := hq.out.unique e_4
  subst e1
  exact ⟨_, rfl, ⟨A, c, rfl, (hA.at_ IDE.enc).2.2⟩, hb⟩
theorem ex_larg : LarL eL [iD 1] 2 [iD 1, iD 4] := by
  have hs : ∀ (k : Nat) (y : IDE) (s : Int), allL[k]? = some y → szL[k]? = some s → sizeI eL [iD 1] y = s := fun k y s h1 h2 => by
    have := e_sizes.get h1
    rw [h2] at this
    injection this with this
    exact this.symm
  have s1 := hs 0 (iD 1) 20 rfl rfl
  have s2 := hs 1 (iD 2) 4 rfl rfl
  have s3 := hs 2 (iD 3) 4 rfl rfl
  have s4 := hs 3 (iD 4) 8 rfl rfl
  have s5 := hs 4 (iD 5) 4 rfl rfl
  refine ⟨allL, [iD 1, iD 4, iD 2, iD 3, iD 5], e_all, by decide, ?_, rfl⟩
  simp only [List.pairwise_cons, List.mem_cons, List.not_mem_nil, or_false, forall_eq_or_imp, forall_eq, bigger, s1, s2, s3, s4, s5, List.Pairwise.nil, and_true, false_implies, implies_true]
  simp [ltI, iD]
theorem exLarg {g : Nat} {u : World} {RA : Option Addr} {rc : Nat} (h : exN g u) (hR : SlAt IDE.cells 2 u RA [iD 1]) : Calls Try.prog 18 #[.agg #[sl1 g 5], .int .i64 2, .slice RA 1 rc] u fun r u' => ∃ v, r = .returned v ∧ (Spec.sl IDE.cells 2 [iD 1, iD 4]).r v u' ∧ Below u.heap.size u u' := by
  obtain ⟨ns, h1, h2, H⟩ := h
  have := larg_any (some ⟨g, 0, none⟩) 5 ns 2 RA rc [iD 1] u H hR (by omega) (ex_flds h1) (by simp)
  rw [h2, h1] at this
  refine this.mono ?_
  rintro r u' ⟨q, A, c, rfl, hq, hA, hb⟩
  have e1 : q = [iD 1, iD 4] := hq.out.1.unique ex_larg
  subst e1
  exact ⟨_, rfl, ⟨A, c, rfl, hA⟩, hb⟩
theorem exWords {g : Nat} {u : World} {RA : Option Addr} {rc : Nat} (h : exN g u) (hR : SlAt IDE.cells 2 u RA [iD 1, iD 1, iD 9]) : Calls Try.prog 20 #[.agg #[sl1 g 5], .slice RA 3 rc] u fun r u' => r = .returned (.int .i64 4) ∧ Below u.heap.size u u' := by
  obtain ⟨ns, h1, h2, H⟩ := h
  have := Words_any (some ⟨g, 0, none⟩) 5 ns RA rc [iD 1, iD 1, iD 9] u H hR (by omega) (ex_flds h1) (by simp)
  rw [h2, h1] at this
  refine this.mono ?_
  rintro r u' ⟨s, rfl, hs, hb⟩
  have : s = 4 := by rw [hs.out]; decide
  subst this
  exact ⟨rfl, hb⟩
theorem exSame {a b : List IDE} {A B : Option Addr} {c d : Nat} {u : World} (ha : SlAt IDE.cells 2 u A a) (hb : SlAt IDE.cells 2 u B b) (h : a = b) (hl : a.length ≤ 1000) : Calls Try.prog 14 #[.slice A a.length c, .slice B b.length d] u fun r u' => r = .returned (.bool true) ∧ Below u.heap.size u u' := by
  refine (same21_any A c a B d b u ha hb (by omega) (by rw [← h]; omega)).mono ?_
  rintro r u' ⟨q, rfl, hq, hb⟩
  exact ⟨by rw [hq.2 h], hb⟩
theorem exInts {a b : List Int} {A B : Option Addr} {c d : Nat} {u : World} (ha : SlAt I64.cells 1 u A a) (hb : SlAt I64.cells 1 u B b) (h : a = b) (hl : a.length ≤ 1000) : Calls Try.prog 17 #[.slice A a.length c, .slice B b.length d] u fun r u' => r = .returned (.bool true) ∧ Below u.heap.size u u' := by
  refine (ints06_any A c a B d b u ha hb (by omega) (by rw [← h]; omega)).mono ?_
  rintro r u' ⟨q, rfl, hq, hb⟩
  exact ⟨by rw [hq.2 h], hb⟩
end Go.Proofs.Ytffnogjgnpbjlaa

/-
  Contracts of the functions of this seat that each theorem names: what a call returns, and that it writes nothing that was there before. The conditions stand in each theorem.
-/
import Derived.Test.YtpkfenlfgdbkcaaGreatDoorGrp37
import Derived.Test.YtpkfenlfgdbkcaaGreatDoorP59Home
import Derived.Deep.RegionHeld3
set_option linter.unusedSimpArgs false
set_option linter.unusedVariables false
namespace Go.Proofs.YtpkfenlfgdbkcaaGreatDoor
open Go.RowKit
@[ext] structure StepE where
  machine : Int
  iDMachine : Int
  iDSerial : Int
  field : Int
def StepE.cells (e : StepE) : List Value := [.int .i64 e.machine, .int .i64 e.iDMachine, .int .i64 e.iDSerial, .int .i64 e.field]
theorem StepE.cells_length (e : StepE) : e.cells.length = 4 := rfl
abbrev StepE.v (e : StepE) : Value := .agg #[.int .i64 e.machine, .int .i64 e.iDMachine, .int .i64 e.iDSerial, .int .i64 e.field]
abbrev StepE.arr (e : StepE) : Array Value := #[.int .i64 e.machine, .int .i64 e.iDMachine, .int .i64 e.iDSerial, .int .i64 e.field]
theorem StepE.facts {e : StepE} {w : World} {b off k : Nat} (h : ∀ j u, e.cells[j]? = some u → w.cell? ⟨b, off + k * 4 + j, none⟩ = some u) : w.cell? ⟨b, off + k * 4, none⟩ = some (.int .i64 e.machine) ∧ w.cell? ⟨b, off + k * 4 + 1, none⟩ = some (.int .i64 e.iDMachine) ∧ w.cell? ⟨b, off + k * 4 + 2, none⟩ = some (.int .i64 e.iDSerial) ∧ w.cell? ⟨b, off + k * 4 + 3, none⟩ = some (.int .i64 e.field) :=
  ⟨by simpa using h 0 _ rfl, by simpa using h 1 _ rfl, by simpa using h 2 _ rfl, by simpa using h 3 _ rfl⟩
/-- The element lies there, in each later world. -/
abbrev StepE.Has (w : World) (b off k : Nat) (e : StepE) : Prop := ∀ (u : World) [Later w u], u.cell? ⟨b, off + k * 4, none⟩ = some (.int .i64 e.machine) ∧ u.cell? ⟨b, off + k * 4 + 1, none⟩ = some (.int .i64 e.iDMachine) ∧ u.cell? ⟨b, off + k * 4 + 2, none⟩ = some (.int .i64 e.iDSerial) ∧ u.cell? ⟨b, off + k * 4 + 3, none⟩ = some (.int .i64 e.field)
theorem StepE.has {e : StepE} {w : World} {b off k : Nat} (hb : b < w.heap.size) (h : ∀ j u, e.cells[j]? = some u → w.cell? ⟨b, off + k * 4 + j, none⟩ = some u) : StepE.Has w b off k e := fun u i => StepE.facts fun j v hv => (i.below.cell (p := ⟨b, _, none⟩) hb).trans (h j v hv)
theorem StepE.get {w : World} {A : Option Addr} {l : List StepE} (h : SlAt StepE.cells 4 w A l) {k : Nat} (hk : k < l.length) : ∃ b off x, A = some ⟨b, off, none⟩ ∧ l[k]? = some x ∧ StepE.Has w b off k x := by
  obtain ⟨b, off, x, hA, hb, hx, hc⟩ := h.at_ hk
  exact ⟨b, off, x, hA, hx, StepE.has hb hc⟩
def StepE.beq (x y : StepE) : Bool := x.machine == y.machine && x.iDMachine == y.iDMachine && x.iDSerial == y.iDSerial && x.field == y.field
theorem StepE.beq_iff {x y : StepE} : x.beq y = true ↔ x = y := by
  cases x; cases y; simp [StepE.beq, Bool.and_eq_true, and_assoc]
theorem StepE.enc : Enc StepE.cells 4 := ⟨fun _ => rfl, fun x u hu => by simp only [StepE.cells, List.mem_cons, List.not_mem_nil, or_false] at hu; rcases hu with rfl | rfl | rfl | rfl <;> rfl, by decide⟩
attribute [local go_sem] Oper.semAt_some Instr.makeFunc
attribute [local simp] heap_drew
attribute [local go_sem ↓] run_eql_id run_neq_id
def stepV (V : List ViewE) (G : List NodeC) (x y : IDE) : StepE := ⟨(homeV V x).1, x.machine, x.serial, fieldN ((firstN G x).getD zeroC) y⟩
theorem load_step {u : World} {g : Nat} {a b c d : Int} {fr} (h : u.heap[g]? = some (.cells #[.int .i64 a, .int .i64 b, .int .i64 c, .int .i64 d] 44 fr)) : (loadVar 44 ⟨g, 0, none⟩).run Tryz.prog u = .ok (.agg #[.int .i64 a, .int .i64 b, .int .i64 c, .int .i64 d]) u := by
  have h0 : u.cell? ⟨g, 0, none⟩ = some (.int .i64 a) := by simp [World.cell?, h]
  have h1 : u.cell? ⟨g, 1, none⟩ = some (.int .i64 b) := by simp [World.cell?, h]
  have h2 : u.cell? ⟨g, 2, none⟩ = some (.int .i64 c) := by simp [World.cell?, h]
  have h3 : u.cell? ⟨g, 3, none⟩ = some (.int .i64 d) := by simp [World.cell?, h]
  simp [go_sem, h0, h1, h2, h3]
set_option maxRecDepth 100000 in
set_option maxHeartbeats 4000000 in
theorem step_any (A : Option Addr) (c : Nat) (V : List ViewE) (GA : Option Addr) (gc : Nat) (G : List NodeE) (x y : IDE) (w : World) (H : ViewsAt w A V) (hf : FewV V) (HG : NodesAt w GA G) (hl : G.length ≤ 1000) (hfl : ∀ n ∈ G, n.fields.length ≤ 1000) :
    Calls Tryz.prog 27 #[.slice A V.length c, .agg #[.slice GA G.length gc], x.v, y.v] w fun r w' => r = .returned (stepV V (conL G) x y).v ∧ Below w.heap.size w w' := by
  have HH : ∀ u [Later w u], Calls Tryz.prog 47 #[.slice A V.length c, x.v] u (HomePost V x u) := fun u i => home_any A c V x u (H.later u) hf
  have HF : ∀ u [Later w u], Calls Tryz.prog 18 #[.agg #[.slice GA G.length gc], x.v] u (FindPost (conL G) x u) := fun u i => find_any GA gc G x u (HG.later u) (by omega) (fun n hn => by have := hfl n hn; omega)
  unfold HomePost at HH
  obtain ⟨hm, hhm⟩ : ∃ n, (homeV V x).1 = n := ⟨_, rfl⟩
  obtain ⟨hb, hhb⟩ : ∃ n, (homeV V x).2 = n := ⟨_, rfl⟩
  rw [hhm, hhb] at HH
  have Hm := hide hhm
  clear hhm hhb H HG
  go_enter Tryz.func27, Tryz.ntmps27
  go_upto_region 1 with fail
  refine wp_name ?_
  intro w1 hw1
  have b8 : w1.heap[w.heap.size + 1 + 1 + 1]? = some (.cells #[.int .i64 0, .int .i64 0, .int .i64 0, .int .i64 0] 44 (0, 0)) := (by rw [← hw1]; simp only [heap_alloc_if, World.size_alloc]; repeat (first | rw [if_pos trivial] | rw [if_neg (by omega)] | rw [if_pos (by omega)]); try rfl)
  obtain ⟨B5, B6, B7, B8, l1⟩ := box4 hw1
  have lw1 : Later w w1 := l1 w
  have l11 : Later w1 w1 := Later.refl
  have hz1 : w1.heap.size = w.heap.size + 1 + 1 + 1 + 1 := by rw [← hw1]; simp
  clear hw1
  go_upto_region 2 with (go_at_call 47; refine (HH _).mono ?_; rintro r w2 ⟨rfl, hb2⟩; have l2 := later hb2)
  go_wp2_with (go_at_call 18; refine (HF _).mono ?_; rintro r w3 ⟨m, rfl, hmc, hmo, -, -, hb3⟩; have l3 := later hb3)
  refine wp_name ?_
  intro w4 hw4
  have b11 : w4.heap[w3.heap.size]? = some (.cells #[.int .i64 m.iDMachine, .int .i64 m.iDSerial, .int .i64 m.kind, .int .i64 m.clas, .slice m.A m.fields.length m.c] 41 (0, 0)) := (by rw [← hw4]; simp only [heap_alloc_if, World.size_alloc]; repeat (first | rw [if_pos trivial] | rw [if_neg (by omega)] | rw [if_pos (by omega)]); try rfl)
  have l4 : Later w1 w4 := ⟨by rw [← hw4]; exact below_of⟩
  have hb34 : Below w3.heap.size w3 w4 := by rw [← hw4]; exact (by repeat (first | with_reducible exact Below.refl _ _ | (with_reducible refine Below.drew ?_) | (with_reducible refine below_drewN ?_ _) | (with_reducible refine Below.alloc ?_ ?_ _; rotate_left; (first | omega | (simp <;> omega))) | (with_reducible refine Below.setCell ?_ ?_ _; rotate_left; (first | omega | (simp <;> omega)))))
  clear hw4
  have lw4 : Later w w4 := lw1.trans l4
  have B11 := boxed b11
  have l44 : Later w4 w4 := Later.refl
  have hms := ((hmo.at_ ValE.enc).2.2).below hb34
  have hml : m.fields.length ≤ 1000 := by
    have h1 := congrArg (fun n => n.fields.length) hmc.out
    change m.fields.length = _ at h1
    rw [h1]
    cases hf : firstN (conL G) x with
    | none => exact Nat.zero_le _
    | some n =>
      obtain ⟨h2, -⟩ := firstN_some hf
      obtain ⟨n', h3, rfl⟩ := List.mem_map.1 h2
      exact hfl n' h3
  have HFd : ∀ u [Later w4 u], Calls Tryz.prog 33 #[m.v, y.v] u fun r w' => r = .returned (.int .i64 (fieldN m.con y)) ∧ Below u.heap.size u w' := fun u i => field_any m y u (hms.below i.below) (by omega)
  obtain ⟨fd, hfd⟩ : ∃ n, fieldN m.con y = n := ⟨_, rfl⟩
  rw [hfd] at HFd
  have hR := hide (show stepV V (conL G) x y = ⟨hm, x.machine, x.serial, fd⟩ by unfold stepV; rw [Hm.out, ← hmc.out, hfd])
  have b84 := blk_below b8 l4.below
  have hz4 := l4.below.size
  clear hfd hmc hmo HF HH hms b11 b8 Hm
  have hn1 : w.heap.size + 1 + 1 + 1 ≠ w3.heap.size := by have := (show Later w1 w3 from ⟨below_of⟩).below.size; omega
  have cx : ∀ u [Later w4 u], u.cell? ⟨w.heap.size + 1, 0, none⟩ = some (.int .i64 x.machine) ∧ u.cell? ⟨w.heap.size + 1, 1, none⟩ = some (.int .i64 x.serial) ∧ u.cell? ⟨w.heap.size + 1 + 1, 0, none⟩ = some (.int .i64 y.machine) ∧ u.cell? ⟨w.heap.size + 1 + 1, 1, none⟩ = some (.int .i64 y.serial) ∧
      u.cell? ⟨w3.heap.size, 0, none⟩ = some (.int .i64 m.iDMachine) ∧ u.cell? ⟨w3.heap.size, 1, none⟩ = some (.int .i64 m.iDSerial) ∧ u.cell? ⟨w3.heap.size, 2, none⟩ = some (.int .i64 m.kind) ∧ u.cell? ⟨w3.heap.size, 3, none⟩ = some (.int .i64 m.clas) ∧ u.cell? ⟨w3.heap.size, 4, none⟩ = some (.slice m.A m.fields.length m.c) := fun u i => by
    haveI := l4.trans i
    exact ⟨((B6 u).2 0).1, ((B6 u).2 1).1, ((B7 u).2 0).1, ((B7 u).2 1).1, ((B11 u).2 0).1, ((B11 u).2 1).1, ((B11 u).2 2).1, ((B11 u).2 3).1, ((B11 u).2 4).1⟩
  obtain ⟨q0, q1, q2, q3, q4, q5, q6, q7, q8⟩ := cx w4
  have hn2 : w.heap.size + 1 + 1 + 1 ≠ w.heap.size + 1 := by omega
  have hn3 : w.heap.size + 1 + 1 + 1 ≠ w.heap.size + 1 + 1 := by omega
  have hle : w.heap.size ≤ w.heap.size + 1 + 1 + 1 := by omega
  clear B5 B6 B7 B8 B11 hz1
  obtain ⟨g8, h8⟩ : ∃ y, y = w.heap.size + 1 + 1 + 1 := ⟨_, rfl⟩
  rw [← h8] at hn1 hn2 hn3 hle b84 ⊢
  clear h8
  obtain ⟨g7, h7⟩ : ∃ y, y = w.heap.size + 1 + 1 := ⟨_, rfl⟩
  rw [← h7] at hn3 q2 q3 ⊢
  simp only [← h7] at cx
  clear h7
  obtain ⟨g6, h6⟩ : ∃ y, y = w.heap.size + 1 := ⟨_, rfl⟩
  rw [← h6] at hn2 q0 q1 ⊢
  simp only [← h6] at cx
  clear h6
  obtain ⟨g3, h3⟩ : ∃ y, y = w3.heap.size := ⟨_, rfl⟩
  rw [← h3] at hn1 q4 q5 q6 q7 q8 ⊢
  simp only [← h3] at cx
  clear h3
  have B8 := boxed b84
  go_region_held3 (fun w' => w'.cell? ⟨g6, 0, none⟩ = some (.int .i64 x.machine) ∧ w'.cell? ⟨g6, 1, none⟩ = some (.int .i64 x.serial) ∧ w'.cell? ⟨g7, 0, none⟩ = some (.int .i64 y.machine) ∧ w'.cell? ⟨g7, 1, none⟩ = some (.int .i64 y.serial) ∧
      w'.cell? ⟨g3, 0, none⟩ = some (.int .i64 m.iDMachine) ∧ w'.cell? ⟨g3, 1, none⟩ = some (.int .i64 m.iDSerial) ∧ w'.cell? ⟨g3, 2, none⟩ = some (.int .i64 m.kind) ∧ w'.cell? ⟨g3, 3, none⟩ = some (.int .i64 m.clas) ∧ w'.cell? ⟨g3, 4, none⟩ = some (.slice m.A m.fields.length m.c)) (first | go_keep)
    ((first
      | (go_at_call 33; refine (HFd _).mono ?_; rintro r w5 ⟨rfl, hb5⟩; have l5 := later hb5; obtain ⟨p0, p1, p2, p3, p4, p5, p6, p7, p8⟩ := cx w5)
      | fail))
  have bw5 : Below w.heap.size w w5 := below_of
  have e := blk_set (blk_set (blk_set (blk_set (B8 w5).1 0 (.int .i64 hm)) 1 (.int .i64 x.machine)) 2 (.int .i64 x.serial)) 3 (.int .i64 fd)
  have hbe : Below w.heap.size w ((((w5.setCell ⟨g8, 0, none⟩ (.int .i64 hm)).setCell ⟨g8, 1, none⟩ (.int .i64 x.machine)).setCell ⟨g8, 2, none⟩ (.int .i64 x.serial)).setCell ⟨g8, 3, none⟩ (.int .i64 fd)) := (((bw5.setCell (p := ⟨g8, 0, none⟩) hle _).setCell (p := ⟨g8, 1, none⟩) hle _).setCell (p := ⟨g8, 2, none⟩) hle _).setCell (p := ⟨g8, 3, none⟩) hle _
  have hld := load_step e
  generalize ((((w5.setCell ⟨g8, 0, none⟩ (.int .i64 hm)).setCell ⟨g8, 1, none⟩ (.int .i64 x.machine)).setCell ⟨g8, 2, none⟩ (.int .i64 x.serial)).setCell ⟨g8, 3, none⟩ (.int .i64 fd)) = w9 at hbe hld e ⊢
  have l99 : Later w9 w9 := Later.refl
  go_wp2_with fail
  exact bodyPost_ret (results_cell rfl rfl hld) rfl ⟨by rw [hR.out], hbe⟩
end Go.Proofs.YtpkfenlfgdbkcaaGreatDoor

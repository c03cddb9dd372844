/-
  Small texts of this seat, put into one. Conditions stand in each theorem.
-/
import Derived.Shelf.Bits.Mul64
import Derived.Ground.NamesProg
import Derived.Test.YtffnogjgnpbjlaaProg
import Derived.Test.YtffnogjgnpbjlaaGrp4
import Derived.Laws.CopyOwn
import Derived.Laws.MakeOwn
namespace Go.Proofs
open Go.Shelf
def Try.lays212_ren : Go.Shelf.Ren := ⟨fun | 212 => 72 | 263 => 87 | 264 => 88 | n => n, fun | 46 => 99 | 51 => 117 | 146 => 120 | 53 => 119 | 148 => 122 | n => n, fun | n => n⟩
theorem Try.lays212 : Go.Proofs.Lays.n212 Try.prog Try.lays212_ren := {
  mixed := by kernel_rfl
  f212 := Try.func72.trans (congrArg some (by kernel_rfl))
  f263 := Try.func87.trans (congrArg some (by kernel_rfl))
  f264 := Try.func88.trans (congrArg some (by kernel_rfl))
  t46 := Try.underlying99
  a46 := Try.isAgg99
  z46 := Try.sizeOf99
  v46 := Try.zeroValue99
  t51 := Try.underlying117
  a51 := Try.isAgg117
  z51 := Try.sizeOf117
  v51 := Try.zeroValue117
  t53 := Try.underlying119
  a53 := Try.isAgg119
  z53 := Try.sizeOf119
  v53 := Try.zeroValue119
  t146 := Try.underlying120
  a146 := Try.isAgg120
  z146 := Try.sizeOf120
  v146 := Try.zeroValue120
  t148 := Try.underlying122
  a148 := Try.isAgg122
  z148 := Try.sizeOf122
  v148 := Try.zeroValue122 }
end Go.Proofs

set_option linter.unusedSimpArgs false
set_option linter.unusedVariables false
namespace Go.Proofs.Ytffnogjgnpbjlaa
open Go.RowKit
attribute [local simp] heap_drew
theorem intTR : ElemT Try.prog 32 3 1 8 := ElemT.mk' (z := .int .i64 0) Try.underlying32 (by kernel_rfl) rfl
def rowR (n N : Nat) : List Value := List.replicate n (.int .i64 (-1)) ++ List.replicate (N - n) (.int .i64 0)
theorem rowR_len {n N : Nat} (h : n ≤ N) : (rowR n N).length = N := by simp [rowR]; omega
theorem rowR_splice {n k N : Nat} (h : n + k ≤ N) : splice (rowR n N) n (List.replicate k (.int .i64 (-1))) = rowR (n + k) N := by
  unfold splice rowR
  rw [List.take_left' (by simp), List.length_replicate, List.drop_append, List.drop_eq_nil_of_le (by simp), List.nil_append, List.drop_replicate, List.length_replicate, ← List.append_assoc, List.replicate_append_replicate]
  congr 2
  omega
theorem rowR_zero {N : Nat} : rowR 0 N = List.replicate N (.int .i64 0) := by simp [rowR]
theorem rowR_all {N : Nat} : rowR N N = (List.replicate N (-1 : Int)).flatMap I64.cells := by
  simp only [rowR, Nat.sub_self, List.replicate_zero, List.append_nil]
  induction N with
  | zero => rfl
  | succ n ih => rw [List.replicate_succ, List.replicate_succ, List.flatMap_cons, ← ih]; rfl
theorem make_ints (w : World) (N : Nat) (hN : N ≤ 1000000) : (Instr.makeSlice 32 (.int .i64 N) (.int .i64 N)).run Try.prog w = .ok (.slice (some ⟨w.heap.size, 0, none⟩) N N) (w.alloc (.cells (rowR 0 N).toArray 3)) := by
  obtain ⟨i, z, h1, h2, h3, h4, h5⟩ := intTR.info
  have h := run_make (P := Try.prog) w 32 3 i z intTR.slice h1 h2 .i64 .i64 (N : Int) (N : Int) (by omega) (by omega) (by rw [h4]; omega) (by omega)
  have hz : (Try.prog.info? 3).bind (·.zero) = some (.int .i64 0) := by kernel_rfl
  rw [h1] at hz
  have hz2 : z = .int .i64 0 := by
    have : i.zero = some (.int .i64 0) := hz
    rw [h2] at this; injection this
  have h3' : i.size = 1 := by
    have : (Try.prog.info? 3).map (·.size) = some 1 := by kernel_rfl
    rw [h1] at this
    simpa using this
  rw [Int.toNat_natCast, h3', Nat.mul_one, hz2] at h
  have e : madeCells (Value.int IntKind.i64 0).cells N = (rowR 0 N).toArray := by
    rw [rowR_zero]
    apply Array.ext
    · simp [madeCells]
    · intro j h6 h7
      simp [madeCells, Value.cells, Nat.mod_one]
  rw [e] at h
  exact h
theorem replicate_at {n j : Nat} {v u : Value} (h : (List.replicate n v)[j]? = some u) : u = v ∧ j < n := by
  have := List.getElem?_eq_some_iff.1 h
  obtain ⟨h1, h2⟩ := this
  simp at h1 h2
  exact ⟨h2.symm, h1⟩
set_option maxRecDepth 100000 in
set_option maxHeartbeats 2000000 in
theorem repeat_any (A : Option Addr) (c N : Nat) (w : World) (hs : SlAt I64.cells 1 w A [-1]) (hN1 : 1 ≤ N) (hN : N ≤ 1000000) :
    Calls Try.prog 51 #[.slice A 1 c, .int .i64 N] w fun r w' => ∃ (B : Option Addr) (c' : Nat), r = .returned (.slice B N c') ∧ Own I64.cells 1 3 w.heap.size w' (.slice B N c') (List.replicate N (-1)) ∧ Below w.heap.size w w' := by
  obtain ⟨b0, o0, rfl, C0⟩ := int_at hs (k := 0) (x := -1) rfl
  rw [Nat.add_zero] at C0
  have HM := fun u : World => Any.bits_Mul Try.lays212 1 N (by omega) (by omega) u
  have hm1 : 1 * N / 18446744073709551616 = 0 := by omega
  have hm2 : 1 * N % 18446744073709551616 = N := by omega
  rw [hm1, hm2] at HM
  have hMk := fun u : World => make_ints u N hN
  have hN64 : (N : Int) % 18446744073709551616 = (N : Int) := by omega
  have hw64 : IntKind.i64.wrap (N : Int) = (N : Int) := by rw [IntKind.wrap_i64]; omega
  have hn0 : decide ((N : Int) < 0) = false := by simp
  have hnm : decide ((9223372036854775807 : Int) < (N : Int)) = false := by simp; omega
  go_enter Try.func51, Try.ntmps51
  go_upto_region 7 with (go_at_call 72; refine (HM _).mono ?_; rintro r w1 ⟨rfl, rfl⟩)
  obtain ⟨g, hg⟩ : ∃ g, g = w1.heap.size := ⟨_, rfl⟩
  rw [← hg]
  refine wp_name ?_
  intro w2 hw2
  have hR2 : w2.heap[g]? = some (.cells (rowR 0 N).toArray 3 (0, 0)) := by rw [← hw2, hg]; exact heap_alloc_new _ _
  have hb2 : Below w1.heap.size w1 w2 := by rw [← hw2]; exact (by repeat (first | with_reducible exact Below.refl _ _ | (with_reducible refine Below.drew ?_) | (with_reducible refine below_drewN ?_ _) | (with_reducible refine Below.alloc ?_ ?_ _; rotate_left; (first | omega | (simp <;> omega))) | (with_reducible refine Below.setCell ?_ ?_ _; rotate_left; (first | omega | (simp <;> omega)))))
  have l2 : Later w1 w2 := ⟨hb2⟩
  have hgw : w1.heap.size ≤ g := by omega
  clear hw2 HM hMk hg
  have hadd : ∀ (b o j : Nat), (⟨b, o, none⟩ : Addr).add j = ⟨b, o + j, none⟩ := fun b o j => by unfold Addr.add; split <;> simp_all
  have hsrc : ∀ j v, ([Value.int .i64 (-1)] : List Value)[j]? = some v → w2.cell? ((⟨b0, o0, none⟩ : Addr).add j) = some v := fun j v hv => by
    cases j with
    | zero => simp at hv; subst hv; rw [hadd]; exact C0 w2
    | succ j => simp at hv
  have hsp : splice (rowR 0 N) 0 [.int .i64 (-1)] = rowR 1 N := by have := rowR_splice (n := 0) (k := 1) (N := N) (by omega); simpa using this
  have h1N : ([Value.int .i64 (-1)] : List Value).length = Nat.min 1 N := by simp [Nat.min_def]; omega
  have hfit : 0 + ([Value.int .i64 (-1)] : List Value).length ≤ (rowR 0 N).length := by rw [rowR_len (by omega)]; simpa using hN1
  have hone : ∀ v ∈ ([Value.int .i64 (-1)] : List Value), v.oneCell' = true := fun v hv => by rw [List.mem_singleton] at hv; subst hv; rfl
  have hinf : (Try.prog.info? 3).map (·.size) = some 1 := by kernel_rfl
  have hcp := run_copy_row (P := Try.prog) w2 32 32 3 3 g 0 N N ⟨b0, o0, none⟩ 1 c (rowR 0 N).toArray 3 [.int .i64 (-1)] Try.underlying32 hinf hR2 h1N hsrc (by simpa using hfit) hone
  have hrow : ((rowR 0 N).toArray.toList.take 0 ++ [Value.int .i64 (-1)] ++ (rowR 0 N).toArray.toList.drop (0 + ([Value.int .i64 (-1)] : List Value).length)).toArray = (rowR 1 N).toArray := by
    rw [← hsp]; simp [splice]
  rw [hrow] at hcp
  simp only [goInt, List.length_singleton] at hcp
  clear hrow
  go_upto_region 8 with fail
  refine wp_name ?_
  intro w3 hw3
  have HR3 := hide (show w3.heap[g]? = some (.cells (rowR 1 N).toArray 3 (0, 0)) by rw [← hw3]; exact setRow_heap w2 g _ _ _ _ hR2)
  have hb3 : Below w1.heap.size w1 w3 := by rw [← hw3]; exact below_setRow hb2 hgw _
  clear hw3 hcp hsp hsrc hfit hone h1N C0 hR2 hb2
  go_loopw [8] (fun nv wr => ∃ n : Nat, 1 ≤ n ∧ n ≤ N ∧ nv = .int .i64 n ∧ Hid (wr.heap[g]? = some (.cells (rowR n N).toArray 3 (0, 0))) ∧ Below w1.heap.size w1 wr) (fun nv _ => N - (intOf nv).toNat)
  case atStart => exact ⟨1, by omega, hN1, rfl, HR3, hb3⟩
  case round =>
    obtain ⟨n, h1n, hnN, rfl, hR, hbr⟩ := hrel
    have lr := later hbr
    by_cases hlt : n < N
    · have hni : (n : Int) < (N : Int) := by omega
      have hni' : (n : Int) ≤ (N : Int) := by omega
      have hnN' : ¬ N = n := by omega
      have hn0' : (0 : Int) ≤ (n : Int) := by omega
      obtain ⟨k, hk⟩ : ∃ k, k = if n ≤ N - n then n else N - n := ⟨_, rfl⟩
      have hkl : n + k ≤ N := by rw [hk]; split <;> omega
      have hk1 : 1 ≤ k := by rw [hk]; split <;> omega
      have hkn : k ≤ n := by rw [hk]; split <;> omega
      have hRd : wr.drew.heap[g]? = some (.cells (rowR n N).toArray 3 (0, 0)) := by rw [heap_drew]; exact hR.out
      have hsrc : ∀ j v, (List.replicate k (Value.int .i64 (-1)))[j]? = some v → wr.drew.cell? ((⟨g, 0, none⟩ : Addr).add j) = some v := fun j v hv => by
        obtain ⟨h1, h2⟩ := replicate_at hv
        rw [hadd, Nat.zero_add, h1]
        have := ((boxed hRd wr.drew).2 j).1
        rw [this]
        simp only [List.getElem?_toArray, rowR]
        rw [List.getElem?_append_left (by simp; omega), List.getElem?_replicate, if_pos (by omega)]
      have hmin : (List.replicate k (Value.int .i64 (-1))).length = Nat.min n (N - n) := by rw [List.length_replicate, hk]; rfl
      have hcp := run_copy_row (P := Try.prog) wr.drew 32 32 3 3 g n (N - n) (N - n) ⟨g, 0, none⟩ n N (rowR n N).toArray 3 (List.replicate k (.int .i64 (-1))) Try.underlying32 hinf hRd hmin hsrc (by rw [List.length_replicate, List.size_toArray, rowR_len hnN]; omega) (fun v hv => by rw [List.eq_of_mem_replicate hv]; rfl)
      have hrow : ((rowR n N).toArray.toList.take n ++ List.replicate k (Value.int .i64 (-1)) ++ (rowR n N).toArray.toList.drop (n + (List.replicate k (Value.int .i64 (-1))).length)).toArray = (rowR (n + k) N).toArray := by
        rw [← rowR_splice hkl]; simp [splice]
      rw [hrow] at hcp
      simp only [goInt, List.length_replicate] at hcp
      have hnk : IntKind.i64.wrap ((n : Int) + (k : Int)) = ((n + k : Nat) : Int) := by rw [IntKind.wrap_i64]; omega
      have Hcp := hide hcp
      clear hrow hmin hsrc hk
      go_upto_region 9 with fail
      refine wp_region_held_drew (S := fun _ => True) (by kernel_rfl) trivial (fun hHeld => ?_)
      refine wpAnyH_take (i := 0) (oi := _) (v := ?_) rfl (by kernel_rfl) (by kernel_rfl) (by kernel_rfl) (fun _ _ _ h => h) (Or.inl ⟨by rfl, ?_⟩) (by assumption) ?_
      rotate_left 1
      · (intro wy hSw; (try dsimp only at hSw); go_simp; try with_reducible rfl)
      (try simp only [Act.put])
      refine wpAnyH_take (i := 1) (oi := _) (v := ?_) rfl (by kernel_rfl) (by kernel_rfl) (by kernel_rfl) (fun _ _ _ h => h) (Or.inl ⟨by rfl, ?_⟩) (by assumption) ?_
      rotate_left 1
      · (intro wy hSw; (try dsimp only at hSw); go_simp; try with_reducible rfl)
      (try simp only [Act.put])
      refine wpAnyH_take (i := 2) (oi := _) (v := ?_) rfl (by kernel_rfl) (by kernel_rfl) (by kernel_rfl) (fun _ _ _ h => h) (Or.inl ⟨by rfl, ?_⟩) (by assumption) ?_
      rotate_left 1
      · (intro wy hSw; (try dsimp only at hSw); go_simp; try with_reducible rfl)
      (try simp only [Act.put])
      refine wpAnyH_take (i := 3) (oi := _) (v := ?_) rfl (by kernel_rfl) (by kernel_rfl) (by kernel_rfl) (fun _ _ _ h => h) (Or.inl ⟨by rfl, ?_⟩) (by assumption) ?_
      rotate_left 1
      · (intro wy hSw; (try dsimp only at hSw); go_simp; try with_reducible rfl)
      (try simp only [Act.put])
      refine wpAnyH_take (i := 4) (oi := _) (v := ?_) rfl (by kernel_rfl) (by kernel_rfl) (by kernel_rfl) (fun _ _ _ h => h) (Or.inl ⟨by rfl, ?_⟩) (by assumption) ?_
      rotate_left 1
      · (intro wy hSw; (try dsimp only at hSw); go_simp; try with_reducible rfl)
      (try simp only [Act.put])
      refine wpAnyH_take (i := 5) (oi := _) (v := ?_) rfl (by kernel_rfl) (by kernel_rfl) (by kernel_rfl) (fun _ _ _ h => h) (Or.inl ⟨by rfl, ?_⟩) (by assumption) ?_
      rotate_left 1
      · (intro wy hSw; (try dsimp only at hSw); go_simp; try with_reducible rfl)
      (try simp only [Act.put])
      refine wpAnyH_take (i := 6) (oi := _) (v := ?_) rfl (by kernel_rfl) (by kernel_rfl) (by kernel_rfl) (fun _ _ _ h => h) (Or.inl ⟨by rfl, ?_⟩) (by assumption) ?_
      rotate_left 1
      · (intro wy hSw; (try dsimp only at hSw); go_simp; try with_reducible rfl)
      (try simp only [Act.put])
      refine wpAnyH_ready (rs := [7]) (by kernel_rfl) (by simp) ?_
      refine AllReadyH.cons (o := _) rfl ?_ AllReadyH.nil
      intro K9 hK9
      go_simp
      refine hK9.out _ _ (by trivial) (fun hHeld => ?_)
      clear hK9 K9
      (try simp only [Act.put])
      refine wpAnyH_take (i := 8) (oi := _) (v := ?_) rfl (by kernel_rfl) (by kernel_rfl) (by kernel_rfl) (fun _ _ _ h => h) (Or.inl ⟨by rfl, ?_⟩) (by assumption) ?_
      rotate_left 1
      · (intro wy hSw; (try dsimp only at hSw); go_simp; try with_reducible rfl)
      (try simp only [Act.put])
      refine wpAnyH_ready (rs := [9]) (by kernel_rfl) (by simp) ?_
      refine AllReadyH.cons (o := _) rfl ?_ AllReadyH.nil
      intro K9 hK9
      go_simp
      refine hK9.out _ _ (by trivial) (fun hHeld => ?_)
      clear hK9 K9
      (try simp only [Act.put])
      refine wpAnyH_done (by kernel_rfl) ?_ _
      go_wp2_with fail
      go_roundw
      case rel => exact ⟨n + k, by omega, hkl, by go_num, hide (setRow_heap wr.drew g _ _ _ _ hRd), below_setRow below_of hgw _⟩
      case measure => simp [intOf]; omega
    · have hNn : n = N := by omega
      subst hNn
      have hni : ¬ (n : Int) < (n : Int) := by omega
      go_wp2_with fail
      go_ret
      refine ⟨some ⟨g, 0, none⟩, n, rfl, ?_, hbr⟩
      have hlen : ((List.replicate n (-1 : Int)).flatMap I64.cells).length = n := by rw [← rowR_all, rowR_len (Nat.le_refl _)]
      exact ⟨by rw [hlen, List.length_replicate, Nat.mul_one], .inr ⟨g, n, (rowR n n).toArray, by rw [List.length_replicate], hgw, hR.out, by rw [List.length_replicate]; exact Nat.le_refl _, by unfold maxLen; omega, by rw [List.size_toArray, rowR_len (Nat.le_refl _), Nat.mul_one], by
        rw [List.length_replicate, Nat.mul_one, ← rowR_all]
        exact List.take_of_length_le (by rw [rowR_len (Nat.le_refl _)]; exact Nat.le_refl _)⟩⟩
end Go.Proofs.Ytffnogjgnpbjlaa

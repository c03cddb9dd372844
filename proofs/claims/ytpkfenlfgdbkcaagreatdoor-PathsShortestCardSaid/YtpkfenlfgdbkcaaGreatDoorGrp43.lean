/-
  Small texts of this seat, put into one. Conditions stand in each theorem.
-/
import Derived.Shelf.Small.Bits
import Derived.Shelf.Strconv.Itoa0
import Derived.Shelf.Strconv.Itoa1
import Derived.Shelf.LaysM
import Derived.Shelf.Strconv.Itoa2
import Derived.Shelf.Strconv.Itoa3
import Derived.Test.YtpkfenlfgdbkcaaGreatDoorProg
import Derived.Test.YtpkfenlfgdbkcaaGreatDoorP59Chk
import Derived.Lib.LaidTab
import Derived.Lib.AppendIntMem
import Derived.Lib.ItoaLen
import Derived.Laws.EntriesVeiled
import Derived.Test.YtpkfenlfgdbkcaaGreatDoorF16Union
namespace Go.Proofs
open Go.Shelf
def Tryz.laysM171_ren : Go.Shelf.Ren := ⟨fun | 171 => 50 | 243 => 84 | 246 => 108 | 283 => 136 | 284 => 137 | 285 => 138 | 286 => 139 | 129 => 126 | 317 => 152 | 318 => 153 | 319 => 154 | 320 => 155 | 337 => 158 | 338 => 159 | n => n, fun | 3 => 3 | 9 => 9 | 2 => 2 | 4 => 4 | 171 => 198 | 0 => 0 | 53 => 67 | 37 => 200 | 5 => 5 | 173 => 201 | 212 => 215 | 51 => 190 | 20 => 20 | 213 => 216 | 46 => 169 | 232 => 221 | 233 => 222 | n => n, fun | 17 => 0 | 18 => 1 | 19 => 2 | n => n⟩
theorem Tryz.laysM171 : Go.Proofs.LaysM.n171 Tryz.prog Tryz.laysM171_ren := {
  mixed := by kernel_rfl
  f129 := Tryz.func126.trans (congrArg some (by kernel_rfl))
  f171 := Tryz.func50.trans (congrArg some (by kernel_rfl))
  f243 := Tryz.func84.trans (congrArg some (by kernel_rfl))
  f246 := Tryz.func108.trans (congrArg some (by kernel_rfl))
  f283 := Tryz.func136.trans (congrArg some (by kernel_rfl))
  f284 := Tryz.func137.trans (congrArg some (by kernel_rfl))
  f285 := Tryz.func138.trans (congrArg some (by kernel_rfl))
  f286 := Tryz.func139.trans (congrArg some (by kernel_rfl))
  f317 := Tryz.func152.trans (congrArg some (by kernel_rfl))
  f318 := Tryz.func153.trans (congrArg some (by kernel_rfl))
  f319 := Tryz.func154.trans (congrArg some (by kernel_rfl))
  f320 := Tryz.func155.trans (congrArg some (by kernel_rfl))
  f337 := Tryz.func158.trans (congrArg some (by kernel_rfl))
  f338 := Tryz.func159.trans (congrArg some (by kernel_rfl))
  t0 := Tryz.underlying0
  a0 := Tryz.isAgg0
  z0 := Tryz.sizeOf0
  v0 := Tryz.zeroValue0
  t2 := Tryz.underlying2
  a2 := Tryz.isAgg2
  z2 := Tryz.sizeOf2
  v2 := Tryz.zeroValue2
  t3 := Tryz.underlying3
  a3 := Tryz.isAgg3
  z3 := Tryz.sizeOf3
  v3 := Tryz.zeroValue3
  t4 := Tryz.underlying4
  a4 := Tryz.isAgg4
  z4 := Tryz.sizeOf4
  v4 := Tryz.zeroValue4
  t5 := Tryz.underlying5
  a5 := Tryz.isAgg5
  z5 := Tryz.sizeOf5
  v5 := Tryz.zeroValue5
  t9 := Tryz.underlying9
  a9 := Tryz.isAgg9
  z9 := Tryz.sizeOf9
  v9 := Tryz.zeroValue9
  t20 := Tryz.underlying20
  a20 := Tryz.isAgg20
  z20 := Tryz.sizeOf20
  v20 := Tryz.zeroValue20
  t37 := Tryz.underlying200
  a37 := Tryz.isAgg200
  z37 := Tryz.sizeOf200
  v37 := Tryz.zeroValue200
  t46 := Tryz.underlying169
  a46 := Tryz.isAgg169
  z46 := Tryz.sizeOf169
  v46 := Tryz.zeroValue169
  t51 := Tryz.underlying190
  a51 := Tryz.isAgg190
  z51 := Tryz.sizeOf190
  v51 := Tryz.zeroValue190
  t53 := Tryz.underlying67
  a53 := Tryz.isAgg67
  z53 := Tryz.sizeOf67
  v53 := Tryz.zeroValue67
  t171 := Tryz.underlying198
  a171 := Tryz.isAgg198
  z171 := Tryz.sizeOf198
  v171 := Tryz.zeroValue198
  t173 := Tryz.underlying201
  a173 := Tryz.isAgg201
  z173 := Tryz.sizeOf201
  v173 := Tryz.zeroValue201
  t212 := Tryz.underlying215
  a212 := Tryz.isAgg215
  z212 := Tryz.sizeOf215
  v212 := Tryz.zeroValue215
  t213 := Tryz.underlying216
  a213 := Tryz.isAgg216
  z213 := Tryz.sizeOf216
  t232 := Tryz.underlying221
  a232 := Tryz.isAgg221
  z232 := Tryz.sizeOf221
  v232 := Tryz.zeroValue221
  t233 := Tryz.underlying222
  a233 := Tryz.isAgg222
  z233 := Tryz.sizeOf222
  v233 := Tryz.zeroValue222
  g17 := by kernel_rfl
  g18 := by kernel_rfl
  g19 := by kernel_rfl
  i0 := by kernel_rfl
  i2 := by kernel_rfl
  i3 := by kernel_rfl
  i4 := by kernel_rfl
  i5 := by kernel_rfl
  i9 := by kernel_rfl
  i20 := by kernel_rfl
  i37 := by kernel_rfl
  i46 := by kernel_rfl
  i51 := by kernel_rfl
  i53 := by kernel_rfl
  i171 := by kernel_rfl
  i173 := by kernel_rfl
  i212 := by kernel_rfl
  i232 := by kernel_rfl
  i233 := by kernel_rfl
  m17 := by kernel_rfl
  m18 := by kernel_rfl
  m19 := by kernel_rfl }
open Go.RowKit Go.Sort Go.Lib in
/-- strconv.Itoa: "Itoa is equivalent to FormatInt(int64(i), 10).": i's DECIMAL NUMERAL ('Lib.itoa': a '-' where i is negative, then the digits), FOR EVERY int. The world behind the call: the world before it, new blocks behind the heap (the library's 'var a [24]byte'), draws. (LAID: no walk: one application.) -/
theorem Tryz.strconv_Itoa (n : Int) (h0 : -9223372036854775808 ≤ n) (h1 : n ≤ 9223372036854775807) (w : World) (htab : Lib.TabIs Tryz.prog w "internal/strconv.uint64pow10" .u64 Lib.pow10Tab) :
    Calls Tryz.prog 50 #[.int .i64 n] w fun e w' => e = .returned (.string ⟨(Lib.itoa n).toArray⟩) ∧ ∃ k os, w' = grow (w.drewN k) os := Any.strconv_Itoa Tryz.laysM171 n h0 h1 w htab
def Tryz.lays171_ren : Go.Shelf.Ren := ⟨fun | 171 => 50 | 243 => 84 | 246 => 108 | 283 => 136 | 284 => 137 | 285 => 138 | 286 => 139 | 129 => 126 | 317 => 152 | 318 => 153 | 319 => 154 | 320 => 155 | 337 => 158 | 338 => 159 | n => n, fun | 3 => 3 | 9 => 9 | 2 => 2 | 4 => 4 | 171 => 198 | 0 => 0 | 53 => 67 | 37 => 200 | 5 => 5 | 173 => 201 | 212 => 215 | 51 => 190 | 20 => 20 | 213 => 216 | 46 => 169 | 232 => 221 | 233 => 222 | n => n, fun | 17 => 0 | 18 => 1 | 19 => 2 | n => n⟩
theorem Tryz.lays171 : Go.Proofs.Lays.n171 Tryz.prog Tryz.lays171_ren := {
  mixed := by kernel_rfl
  f129 := Tryz.func126.trans (congrArg some (by kernel_rfl))
  f171 := Tryz.func50.trans (congrArg some (by kernel_rfl))
  f243 := Tryz.func84.trans (congrArg some (by kernel_rfl))
  f246 := Tryz.func108.trans (congrArg some (by kernel_rfl))
  f283 := Tryz.func136.trans (congrArg some (by kernel_rfl))
  f284 := Tryz.func137.trans (congrArg some (by kernel_rfl))
  f285 := Tryz.func138.trans (congrArg some (by kernel_rfl))
  f286 := Tryz.func139.trans (congrArg some (by kernel_rfl))
  f317 := Tryz.func152.trans (congrArg some (by kernel_rfl))
  f318 := Tryz.func153.trans (congrArg some (by kernel_rfl))
  f319 := Tryz.func154.trans (congrArg some (by kernel_rfl))
  f320 := Tryz.func155.trans (congrArg some (by kernel_rfl))
  f337 := Tryz.func158.trans (congrArg some (by kernel_rfl))
  f338 := Tryz.func159.trans (congrArg some (by kernel_rfl))
  t0 := Tryz.underlying0
  a0 := Tryz.isAgg0
  z0 := Tryz.sizeOf0
  v0 := Tryz.zeroValue0
  t2 := Tryz.underlying2
  a2 := Tryz.isAgg2
  z2 := Tryz.sizeOf2
  v2 := Tryz.zeroValue2
  t3 := Tryz.underlying3
  a3 := Tryz.isAgg3
  z3 := Tryz.sizeOf3
  v3 := Tryz.zeroValue3
  t4 := Tryz.underlying4
  a4 := Tryz.isAgg4
  z4 := Tryz.sizeOf4
  v4 := Tryz.zeroValue4
  t5 := Tryz.underlying5
  a5 := Tryz.isAgg5
  z5 := Tryz.sizeOf5
  v5 := Tryz.zeroValue5
  t9 := Tryz.underlying9
  a9 := Tryz.isAgg9
  z9 := Tryz.sizeOf9
  v9 := Tryz.zeroValue9
  t20 := Tryz.underlying20
  a20 := Tryz.isAgg20
  z20 := Tryz.sizeOf20
  v20 := Tryz.zeroValue20
  t37 := Tryz.underlying200
  a37 := Tryz.isAgg200
  z37 := Tryz.sizeOf200
  v37 := Tryz.zeroValue200
  t46 := Tryz.underlying169
  a46 := Tryz.isAgg169
  z46 := Tryz.sizeOf169
  v46 := Tryz.zeroValue169
  t51 := Tryz.underlying190
  a51 := Tryz.isAgg190
  z51 := Tryz.sizeOf190
  v51 := Tryz.zeroValue190
  t53 := Tryz.underlying67
  a53 := Tryz.isAgg67
  z53 := Tryz.sizeOf67
  v53 := Tryz.zeroValue67
  t171 := Tryz.underlying198
  a171 := Tryz.isAgg198
  z171 := Tryz.sizeOf198
  v171 := Tryz.zeroValue198
  t173 := Tryz.underlying201
  a173 := Tryz.isAgg201
  z173 := Tryz.sizeOf201
  v173 := Tryz.zeroValue201
  t212 := Tryz.underlying215
  a212 := Tryz.isAgg215
  z212 := Tryz.sizeOf215
  v212 := Tryz.zeroValue215
  t213 := Tryz.underlying216
  a213 := Tryz.isAgg216
  z213 := Tryz.sizeOf216
  t232 := Tryz.underlying221
  a232 := Tryz.isAgg221
  z232 := Tryz.sizeOf221
  v232 := Tryz.zeroValue221
  t233 := Tryz.underlying222
  a233 := Tryz.isAgg222
  z233 := Tryz.sizeOf222
  v233 := Tryz.zeroValue222
  g17 := by kernel_rfl
  g18 := by kernel_rfl
  g19 := by kernel_rfl }
open Go.RowKit Go.Sort Go.Lib in
/-- THE ROAD WITHOUT THE TABLE: 0 <= i < 100: NO PREMISE ON THE WORLD, AND THE WORLD IS AS IT WAS: a row that keeps its argument in that range need list no table ('laid = []'). (LAID: no walk: one application.) -/
theorem Tryz.strconv_Itoa_small (i : Nat) (hi : i < 100) (w : World) :
    Calls Tryz.prog 50 #[.int .i64 i] w fun e w' => e = .returned (.string ⟨(Lib.decDigits i).toArray⟩) ∧ w' = w := Any.strconv_Itoa_small Tryz.lays171 i hi w
end Go.Proofs

set_option linter.unusedSimpArgs false
set_option linter.unusedVariables false
namespace Go.Proofs.YtpkfenlfgdbkcaaGreatDoor
open Go.RowKit
attribute [local go_sem] Oper.semAt_some Instr.makeFunc
attribute [local simp] heap_drew
attribute [local go_sem ↓] load_view_pre load_flight_pre load_msg_pre store_view_pre store_flight_pre store_msg_pre load_scion_pre store_scion_pre
attribute [local go_sem] load_view load_flight load_msg store_view store_flight store_msg load_scion store_scion view_isRow zero_isRow scion_isRow zeroS_isRow rowFree_new setRow_new view_arr0 view_arr2 view_arr3 view_arr4 view_arr5 view_arr6 view_arr9 view_arr10 flight_arr0 flight_arr1 flight_arr2 flight_arr3 flight_arr6 flight_arr7 flight_arr8 flight_arr9 flight_arr10 flight_arr11 flight_arr12 flight_arr13 flight_arr17 flight_arr18 flight_arr19 flight_arr20 flight_arr21 flight_arr22 flight_arr23 flight_arr24 flight_arr25 msg_arr0 msg_arr1 msg_arr4 msg_arr5 msg_arr6 msg_arr7 msg_arr8 msg_arr9 msg_arr10 msg_arr11 msg_arr15 msg_arr16 msg_arr17 msg_arr18 msg_arr19 msg_arr20 msg_arr21 msg_arr22 msg_arr23
attribute [local go_sem ↓] run_eql_id run_neq_id
/-- The table that strconv reads. -/
abbrev Tab10 (w : World) : Prop := Lib.TabIs Tryz.prog w "internal/strconv.uint64pow10" .u64 Lib.pow10Tab
theorem Tab10.later {w : World} (h : Tab10 w) : ∀ u [Later w u], Tab10 u := fun u i => Lib.tabBelow_of_tabIs h u i.below
abbrev bs (l : List UInt8) : ByteArray := ⟨l.toArray⟩
theorem bs_add (x y : List UInt8) : bs x ++ bs y = bs (x ++ y) := ByteArray.mk_append_mk x y
theorem bs_size (x : List UInt8) : (bs x).size = x.length := by simp [ByteArray.size]
def I64ok (n : Int) : Prop := -9223372036854775808 ≤ n ∧ n ≤ 9223372036854775807
theorem itoa_any {n : Int} (hn : I64ok n) (w : World) (h : Tab10 w) : Calls Tryz.prog 50 #[.int .i64 n] w fun r w' => r = .returned (.string (bs (Lib.itoa n))) ∧ Below w.heap.size w w' :=
  (Tryz.strconv_Itoa n hn.1 hn.2 w h).mono fun e w' ⟨h1, k, os, h2⟩ => ⟨h1, Grown.below ⟨k, os, h2⟩⟩
theorem sadd {x y : List UInt8} (h : (x ++ y).length ≤ 1000000) (u : World) : (Op.stringOp .add (bs x) (bs y)).run Tryz.prog u = .ok (.string (bs (x ++ y))) u := by
  rw [← bs_add]; exact run_string_add_sum u _ _ (by rw [bs_size, bs_size]; rw [List.length_append] at h; omega)
set_option maxHeartbeats 1000000 in
theorem idValid_any (x : IDE) (hv : validIDB x = true) (w : World) : Calls Tryz.prog 83 #[x.v] w fun r w' => r = .returned (.bool true) ∧ Below w.heap.size w w' := by
  obtain ⟨h1, h2, h3, h4⟩ := of_decide_eq_true hv
  clear hv
  go_enter Tryz.func83, Tryz.ntmps83
  go_wp2_with fail
  go_ret
  exact ⟨rfl, below_of⟩
theorem valid_ok {x : IDE} (hv : validIDB x = true) : I64ok x.machine ∧ I64ok x.serial := by
  obtain ⟨h1, h2, h3, h4⟩ := of_decide_eq_true hv
  exact ⟨⟨by omega, by omega⟩, ⟨by omega, by omega⟩⟩
set_option maxRecDepth 100000 in
set_option maxHeartbeats 2000000 in
theorem idFmt_any (x : IDE) (hv : validIDB x = true) (w : World) (h : Tab10 w) : Calls Tryz.prog 49 #[x.v] w fun r w' => r = .returned (.string (bs (nameB x))) ∧ Below w.heap.size w w' := by
  have HT := h.later
  have hx := valid_ok hv
  have H0 : ∀ u [Later w u], Calls Tryz.prog 83 #[x.v] u fun r w' => r = .returned (.bool true) ∧ Below u.heap.size u w' := fun u i => idValid_any x hv u
  have H1 : ∀ u [Later w u], Calls Tryz.prog 50 #[.int .i64 x.machine] u fun r w' => r = .returned (.string (bs (Lib.itoa x.machine))) ∧ Below u.heap.size u w' := fun u i => itoa_any hx.1 u (HT u)
  have H2 : ∀ u [Later w u], Calls Tryz.prog 50 #[.int .i64 x.serial] u fun r w' => r = .returned (.string (bs (Lib.itoa x.serial))) ∧ Below u.heap.size u w' := fun u i => itoa_any hx.2 u (HT u)
  have z1 := Lib.itoa_length_le x.machine hx.1.1 hx.1.2
  have z2 := Lib.itoa_length_le x.serial hx.2.1 hx.2.2
  obtain ⟨s1, e1⟩ : ∃ s, s = Lib.itoa x.machine := ⟨_, rfl⟩
  obtain ⟨s2, e2⟩ : ∃ s, s = Lib.itoa x.serial := ⟨_, rfl⟩
  have hN := hide (show nameB x = [109] ++ s1 ++ [58] ++ s2 by rw [e1, e2]; unfold nameB; simp)
  rw [← e1] at H1 z1
  rw [← e2] at H2 z2
  have S1 : ∀ u : World, (Op.stringOp .add ⟨#[109]⟩ (bs s1)).run Tryz.prog u = .ok (.string (bs ([109] ++ s1))) u := sadd (x := [109]) (by simp; omega)
  have S2 : ∀ u : World, (Op.stringOp .add (bs ([109] ++ s1)) ⟨#[58]⟩).run Tryz.prog u = .ok (.string (bs ([109] ++ s1 ++ [58]))) u := sadd (y := [58]) (by simp; omega)
  have S3 : ∀ u : World, (Op.stringOp .add (bs ([109] ++ s1 ++ [58])) (bs s2)).run Tryz.prog u = .ok (.string (bs ([109] ++ s1 ++ [58] ++ s2))) u := sadd (by simp; omega)
  obtain ⟨t1, f1⟩ : ∃ t, t = [109] ++ s1 := ⟨_, rfl⟩
  rw [← f1] at S1 S2 S3 hN
  obtain ⟨t2, f2⟩ : ∃ t, t = t1 ++ [58] := ⟨_, rfl⟩
  rw [← f2] at S2 S3 hN
  obtain ⟨t3, f3⟩ : ∃ t, t = t2 ++ s2 := ⟨_, rfl⟩
  rw [← f3] at S3 hN
  generalize bs s1 = b1 at H1 S1
  generalize bs s2 = b2 at H2 S3
  generalize bs t1 = c1 at S1 S2
  generalize bs t2 = c2 at S2 S3
  clear e1 e2 f1 f2 f3 z1 z2 hx hv
  go_enter Tryz.func49, Tryz.ntmps49
  go_upto_region 1 with fail
  refine wp_name ?_
  intro w0 hw0
  obtain ⟨B0, l0⟩ := box1 hw0
  clear hw0
  go_upto_region 3 with (go_at_call 83; refine (H0 _).mono ?_; rintro r w1 ⟨rfl, hb1⟩; have l1 := later hb1)
  (refine wp_region_after (by kernel_rfl) (by kernel_rfl) ?_
   repeat (any_goals (first | go_big_quiet_skip | (go_big_quiet_want; go_big_quiet_op; first | go_big_quiet_on | go_big_quiet_call ((first | (go_at_call_has 50 (x.machine); exact Calls.after (H1 _)) | (go_at_call_has 50 (x.serial); exact Calls.after (H2 _))))) | quiet_step ((first | (go_at_call_has 50 (x.machine); exact Calls.after (H1 _)) | (go_at_call_has 50 (x.serial); exact Calls.after (H2 _)))) | (refine wpQuiet_step (fun K hK => ?_); go_simp; split <;> (refine hK _ ?_; clear hK K))))
   all_goals (refine wpQuiet_nil ?_; intro _ hw'; obtain ⟨u', hw''⟩ := hw'; subst hw''; obtain ⟨wd, hbd⟩ := u'; simp only [After.val_mk]))
  have ld := later hbd
  go_wp2_with fail
  go_ret
  exact ⟨by rw [hN.out]; rfl, below_of⟩
def movingB : List UInt8 := [109, 111, 118, 105, 110, 103]
def placeV (V : List ViewE) (s : StepE) : List UInt8 := if (V.find? (localB s.id)).isSome then 109 :: Lib.itoa s.machine else movingB
set_option maxRecDepth 100000 in
set_option maxHeartbeats 4000000 in
theorem place_any (A : Option Addr) (c : Nat) (V : List ViewE) (s : StepE) (w : World) (H : ViewsAt w A V) (hf : FewV V) (h : Tab10 w) (hs : (V.find? (localB s.id)).isSome = true → I64ok s.machine) :
    Calls Tryz.prog 48 #[.slice A V.length c, s.v] w fun r w' => r = .returned (.string (bs (placeV V s))) ∧ Below w.heap.size w w' := by
  have hl := hf.l
  have HV := H.later
  have HT := h.later
  have Hs := hide hs
  clear hs
  have hl' : V.length ≤ 9223372036854775807 := by omega
  go_enter Tryz.func48, Tryz.ntmps48
  go_upto_region 1 with fail
  refine wp_name ?_
  intro w0 hw0
  obtain ⟨B0, l0⟩ := box1 hw0
  have l00 : Later w0 w0 := Later.refl
  have lw0 : Later w w0 := l0 w
  clear hw0
  go_wp2_with fail
  go_loopw [11] (fun i wr => ∃ k : Nat, k ≤ V.length ∧ i = .int .i64 k ∧ NoneTo (localB s.id) V k ∧ Below w0.heap.size w0 wr) (fun i _ => V.length - (intOf i).toNat)
  case atStart => exact ⟨0, by omega, rfl, NoneTo.zero, Below.refl _ _⟩
  case round =>
    obtain ⟨k, hk, rfl, hno, hbr⟩ := hrel
    have lr := later hbr
    have lrr : Later wr wr := Later.refl
    have l0r : Later w0 wr := ⟨hbr⟩
    have lwr : Later w wr := lw0.trans l0r
    have Hno := hide hno
    clear hno
    by_cases hlt : k < V.length
    · obtain ⟨b, o, v, rfl, hv, hmem, LV, C0, -, -, hvo⟩ := (HV wr).get hlt
      have hki : (k : Int) < (V.length : Int) := by omega
      have Hv := hide hv
      clear hv
      have hfv := hf.v v hmem
      have hol := hfv.o
      have HF : ∀ u [Later wr u], Calls Tryz.prog 18 #[.agg #[.slice v.oA v.objects.length v.oc], s.id.v] u (FindPost (conL v.objects) s.id u) := fun u i => find_any v.oA v.oc v.objects s.id u (hvo u).o (by omega) (fun n hn => by have := hfv.d n hn; omega)
      unfold FindPost at HF
      obtain ⟨fb, hfb⟩ : ∃ n, (firstN (conL v.objects) s.id).isSome = n := ⟨_, rfl⟩
      rw [hfb] at HF
      have Hfb := hide hfb
      clear hfb
      go_upto_region 4 with fail
      refine wp_name ?_
      intro w2 hw2
      obtain ⟨B3, l2⟩ := box1 hw2
      have l22 : Later w2 w2 := Later.refl
      have lr2 : Later wr w2 := l2 wr
      clear hw2
      obtain ⟨-, O3, -, -, -, -, -, R3⟩ := ViewE.box B3
      clear B3
      go_upto_region 5 with (go_at_call 18; refine (HF _).mono ?_; rintro r w3 ⟨m, rfl, hmc, -, -, -, hb3⟩; have l3 := later hb3)
      refine wp_name ?_
      intro w5 hw5
      have b7 : w5.heap[w3.heap.size]? = some (.cells #[.int .i64 m.iDMachine, .int .i64 m.iDSerial, .int .i64 m.kind, .int .i64 m.clas, .slice m.A m.fields.length m.c] 41 (0, 0)) := (by rw [← hw5]; simp only [heap_alloc_if, World.size_alloc]; repeat (first | rw [if_pos trivial] | rw [if_neg (by omega)] | rw [if_pos (by omega)]); try rfl)
      have hb5 : Below w3.heap.size w3 w5 := by rw [← hw5]; exact (by repeat (first | with_reducible exact Below.refl _ _ | (with_reducible refine Below.drew ?_) | (with_reducible refine below_drewN ?_ _) | (with_reducible refine Below.alloc ?_ ?_ _; rotate_left; (first | omega | (simp <;> omega))) | (with_reducible refine Below.setCell ?_ ?_ _; rotate_left; (first | omega | (simp <;> omega)))))
      clear hw5
      have lr3 : Later wr w3 := ⟨below_of⟩
      have lr5 : Later wr w5 := ⟨lr3.below.trans (hb5.mono lr3.below.size)⟩
      have l05 : Later w0 w5 := l0r.trans lr5
      have lw5 : Later w w5 := lwr.trans lr5
      have B7 := boxed b7
      have l55 : Later w5 w5 := Later.refl
      have hq : localB s.id v = (fb && (m.kind != 3)) := by
        unfold localB
        cases hn : firstN (conL v.objects) s.id with
        | none => have := Hfb.out; rw [hn] at this; rw [← this]; rfl
        | some n =>
          have h1 := Hfb.out
          have h2 := hmc.out
          rw [hn] at h1 h2
          have h3 : m.kind = n.kind := by rw [← show m.con.kind = m.kind from rfl, h2]; rfl
          rw [← h1, h3]; rfl
      clear l3 hb3 HF R3 O3 b7 hmc Hfb
      cases fb
      · have hno2 := Hno.out.succ Hv.out hq
        go_wp2_with fail
        go_roundw
        case rel => exact ⟨k + 1, by omega, by go_num, hno2, below_of⟩
        case measure => simp [intOf]; omega
      obtain ⟨kd, hkd⟩ : ∃ b, (m.kind != 3) = b := ⟨_, rfl⟩
      rw [hkd] at hq
      cases kd
      · have hno2 := Hno.out.succ Hv.out hq
        go_wp2_with fail
        go_roundw
        case rel => exact ⟨k + 1, by omega, by go_num, hno2, below_of⟩
        case measure => simp [intOf]; omega
      have hfd := find_hit Hv.out (hq.trans rfl) Hno.out
      have hok := Hs.out (by rw [hfd]; rfl)
      have HI : ∀ u [Later w u], Calls Tryz.prog 50 #[.int .i64 s.machine] u fun r w' => r = .returned (.string (bs (Lib.itoa s.machine))) ∧ Below u.heap.size u w' := fun u i => itoa_any hok u (HT u)
      have z1 := Lib.itoa_length_le s.machine hok.1 hok.2
      have S1 : ∀ u : World, (Op.stringOp .add ⟨#[109]⟩ (bs (Lib.itoa s.machine))).run Tryz.prog u = .ok (.string (bs ([109] ++ Lib.itoa s.machine))) u := sadd (x := [109]) (by simp; omega)
      have hp := hide (show placeV V s = [109] ++ Lib.itoa s.machine by unfold placeV; rw [hfd]; rfl)
      generalize Lib.itoa s.machine = sm at HI S1 hp
      clear hfd hok z1 hq
      go_wp2_with (go_at_call 50; refine (HI _).mono ?_; rintro r w6 ⟨rfl, hb6⟩; have l6 := later hb6)
      go_ret
      exact ⟨by rw [hp.out]; rfl, below_of⟩
    · have hk' : k = V.length := by omega
      subst hk'
      have hp := hide (show placeV V s = movingB by unfold placeV; rw [find_miss Hno.out]; rfl)
      go_wp2_with fail
      go_ret
      exact ⟨by rw [hp.out]; rfl, below_of⟩
end Go.Proofs.YtpkfenlfgdbkcaaGreatDoor

namespace Go.Proofs.YtpkfenlfgdbkcaaGreatDoor
open Go.RowKit
attribute [local go_sem ↓] run_eql_id run_neq_id
attribute [local simp] heap_drew
/-- A string of a list. -/
def strC (x : List UInt8) : List Value := [.string (bs x)]
theorem strC.enc : Enc strC 1 := ⟨fun _ => rfl, fun x u hu => by simp only [strC, List.mem_cons, List.not_mem_nil, or_false] at hu; subst hu; rfl, by decide⟩
theorem strT : ElemT Tryz.prog 51 9 1 16 := ElemT.mk' (z := .string ⟨#[]⟩) Tryz.underlying51 (by kernel_rfl) rfl
theorem strC.get {w : World} {A : Option Addr} {l : List (List UInt8)} (h : SlAt strC 1 w A l) {k : Nat} (hk : k < l.length) : ∃ b off x, A = some ⟨b, off, none⟩ ∧ l[k]? = some x ∧ ∀ u [Later w u], u.cell? ⟨b, off + k, none⟩ = some (.string (bs x)) := by
  obtain ⟨b, off, x, hA, hb, hx, hc⟩ := h.at_ hk
  refine ⟨b, off, x, hA, hx, fun u i => ?_⟩
  have := cell_below (hc 0 _ rfl) i.below
  simpa using this
theorem bs_beq (x y : List UInt8) : ((bs x).toList == (bs y).toList) = decide (x = y) := by
  rw [Lib.toList_data, Lib.toList_data]
  by_cases h : x = y <;> simp [h]
theorem bs_inj {x y : List UInt8} (h : bs x = bs y) : x = y := by
  have := congrArg ByteArray.data h
  simpa using congrArg Array.toList this
set_option maxHeartbeats 800000 in
theorem sameLines_any (aA : Option Addr) (aC : Nat) (a : List (List UInt8)) (bA : Option Addr) (bC : Nat) (b : List (List UInt8)) (w : World) (ha : SlAt strC 1 w aA a) (hb : SlAt strC 1 w bA b) (hal : a.length ≤ 1000000000) (hbl : b.length ≤ 1000000000) :
    Calls Tryz.prog 25 #[.slice aA a.length aC, .slice bA b.length bC] w fun r w' => r = .returned (.bool (decide (a = b))) ∧ Below w.heap.size w w' := by
  have hal' : a.length ≤ 9223372036854775807 := by omega
  have hbl' : b.length ≤ 9223372036854775807 := by omega
  obtain ⟨R, hR⟩ : ∃ R, R = decide (a = b) := ⟨_, rfl⟩
  rw [← hR]
  have HR := hide hR
  clear hR
  by_cases hl : a.length = b.length
  rotate_left
  · have hl' : ((a.length : Int) != (b.length : Int)) = true := by simp; omega
    have hr := hide (show R = false by rw [HR.out]; exact decide_eq_false fun h => hl (by rw [h]))
    clear hl
    go_enter Tryz.func25, Tryz.ntmps25
    go_wp2_with fail
    go_ret
    exact ⟨ret_bool hr.out.symm, Below.refl _ _⟩
  have Hl := hide hl
  have hl' : ((a.length : Int) != (b.length : Int)) = false := by simp [hl]
  clear hl
  have Ha : ∀ u [Later w u], SlAt strC 1 u aA a := fun u i => ha.below i.below
  have Hb : ∀ u [Later w u], SlAt strC 1 u bA b := fun u i => hb.below i.below
  go_enter Tryz.func25, Tryz.ntmps25
  go_wp2_with fail
  go_loopw [5] (fun i wr => ∃ k : Nat, k ≤ a.length ∧ i = .int .i64 k ∧ (∀ (j : Nat) (x y : List UInt8), j < k → a[j]? = some x → b[j]? = some y → x = y) ∧ Below w.heap.size w wr) (fun i _ => a.length - (intOf i).toNat)
  case atStart => exact ⟨0, by omega, rfl, fun j _ _ h => absurd h (by omega), Below.refl _ _⟩
  case round =>
    obtain ⟨k, hk, rfl, hall, hbw⟩ := hrel
    have lr := later hbw
    have Hall := hide hall
    clear hall
    by_cases hlt : k < a.length
    · have hlt2 : k < b.length := by rw [← Hl.out]; exact hlt
      have hki : (k : Int) < (a.length : Int) := by omega
      have hki2 : (k : Int) < (b.length : Int) := by omega
      obtain ⟨g1, o1, x, rfl, hx, C1⟩ := strC.get (Ha wr) hlt
      obtain ⟨g2, o2, y, rfl, hy, C2⟩ := strC.get (Hb wr) hlt2
      have Hx := hide hx
      have Hy := hide hy
      clear hx hy
      by_cases hxy : x = y
      · have hne : (x == y) = true := by simp [hxy]
        have Hxy := hide hxy
        clear hxy
        go_upto_region 6 with fail
        (refine wp_region_after (by kernel_rfl) (by kernel_rfl) ?_
         repeat (any_goals (first | go_big_quiet_skip | (go_big_quiet_want; go_big_quiet_op; first | go_big_quiet_on | go_big_quiet_call (fail)) | quiet_step (fail) | (refine wpQuiet_step (fun K hK => ?_); go_simp; split <;> (refine hK _ ?_; clear hK K))))
         all_goals (refine wpQuiet_nil ?_; intro _ hw'; obtain ⟨u', hw''⟩ := hw'; subst hw''; obtain ⟨wd, hbd⟩ := u'; simp only [After.val_mk]))
        have ld := later hbd
        go_wp2_with fail
        go_roundw
        case rel => exact ⟨k + 1, by omega, by go_num, fun j x' y' hj hx' hy' => by
          rcases Nat.lt_or_ge j k with h | h
          · exact Hall.out j x' y' h hx' hy'
          · have : j = k := by omega
            subst this
            rw [Hx.out] at hx'; injection hx' with hx'
            rw [Hy.out] at hy'; injection hy' with hy'
            rw [← hx', ← hy']; exact Hxy.out, hbw.trans (hbd.mono hbw.size)⟩
        case measure => simp [intOf]; omega
      · have hne : (x == y) = false := by simp [hxy]
        have hr := hide (show R = false by
          rw [HR.out]; refine decide_eq_false fun h => hxy ?_
          have h1 := Hx.out
          rw [h, Hy.out] at h1
          injection h1 with h1
          exact h1.symm)
        clear hxy
        go_upto_region 6 with fail
        (refine wp_region_after (by kernel_rfl) (by kernel_rfl) ?_
         repeat (any_goals (first | go_big_quiet_skip | (go_big_quiet_want; go_big_quiet_op; first | go_big_quiet_on | go_big_quiet_call (fail)) | quiet_step (fail) | (refine wpQuiet_step (fun K hK => ?_); go_simp; split <;> (refine hK _ ?_; clear hK K))))
         all_goals (refine wpQuiet_nil ?_; intro _ hw'; obtain ⟨u', hw''⟩ := hw'; subst hw''; obtain ⟨wd, hbd⟩ := u'; simp only [After.val_mk]))
        have ld := later hbd
        go_wp2_with fail
        go_ret
        exact ⟨ret_bool hr.out.symm, hbw.trans (hbd.mono hbw.size)⟩
    · have hk' : k = a.length := by omega
      subst hk'
      have hr := hide (show R = true by rw [HR.out]; exact decide_eq_true (eq_to Hl.out fun j x y hx hy => Hall.out j x y (List.getElem?_eq_some_iff.1 hx).1 hx hy))
      go_wp2_with fail
      go_ret
      exact ⟨ret_bool hr.out.symm, hbw⟩
end Go.Proofs.YtpkfenlfgdbkcaaGreatDoor

namespace Go.Proofs.YtpkfenlfgdbkcaaGreatDoor
open Go.RowKit
attribute [local go_sem] Oper.semAt_some Instr.makeFunc
attribute [local simp] heap_drew
attribute [local go_sem ↓] load_view_pre load_flight_pre load_msg_pre store_view_pre store_flight_pre store_msg_pre load_scion_pre store_scion_pre
attribute [local go_sem] load_view load_flight load_msg store_view store_flight store_msg load_scion store_scion view_isRow zero_isRow scion_isRow zeroS_isRow rowFree_new setRow_new view_arr0 view_arr2 view_arr3 view_arr4 view_arr5 view_arr6 view_arr9 view_arr10 flight_arr0 flight_arr1 flight_arr2 flight_arr3 flight_arr6 flight_arr7 flight_arr8 flight_arr9 flight_arr10 flight_arr11 flight_arr12 flight_arr13 flight_arr17 flight_arr18 flight_arr19 flight_arr20 flight_arr21 flight_arr22 flight_arr23 flight_arr24 flight_arr25 msg_arr0 msg_arr1 msg_arr4 msg_arr5 msg_arr6 msg_arr7 msg_arr8 msg_arr9 msg_arr10 msg_arr11 msg_arr15 msg_arr16 msg_arr17 msg_arr18 msg_arr19 msg_arr20 msg_arr21 msg_arr22 msg_arr23
attribute [local go_sem ↓] run_eql_id run_neq_id
theorem take_map_snoc {α β : Type} {f : α → β} {l : List α} {k : Nat} {x : α} (h : l[k]? = some x) : (l.take (k + 1)).map f = (l.take k).map f ++ [f x] := by
  rw [List.take_add_one, h]
  simp
def rootB : List UInt8 := [114, 111, 111, 116, 32]
def thenB : List UInt8 := [116, 104, 101, 110, 32]
def fieldB : List UInt8 := [32, 102, 105, 101, 108, 100, 32]
def lineV (V : List ViewE) (p : StepE × Nat) : List UInt8 := (if p.2 = 0 then rootB else thenB) ++ ((placeV V p.1 ++ [32]) ++ nameB p.1.id) ++ (if 0 ≤ p.1.field then fieldB ++ Lib.itoa p.1.field else [])
def formatV (V : List ViewE) (P : List StepE) : List (List UInt8) := if checkB V P then P.zipIdx.map (lineV V) else []
theorem chain_all {V : List ViewE} {G : List NodeC} (hG : ∀ n ∈ G, n.fields.length ≤ 1000) : ∀ {P : List StepE}, chainB V G P = true → ∀ s ∈ P, headB V G s = true ∧ -1 ≤ s.field ∧ s.field ≤ 1000
  | [], _, _, hs => by cases hs
  | [s], h, x, hs => by
    rw [List.mem_singleton.1 hs]
    unfold chainB at h
    rw [Bool.and_eq_true] at h
    have := of_decide_eq_true h.2
    exact ⟨h.1, by omega, by omega⟩
  | s :: t :: l, h, x, hs => by
    unfold chainB at h
    rw [Bool.and_eq_true] at h
    obtain ⟨h1, h2⟩ := h
    replace h2 : (linkB G s t.id && chainB V G (t :: l)) = true := h2
    rw [Bool.and_eq_true] at h2
    rcases List.mem_cons.1 hs with rfl | hs
    · have h3 := h2.1
      unfold linkB at h3
      simp only [Bool.and_eq_true] at h3
      have h4 := of_decide_eq_true h3.1.2
      have h5 : ((firstN G x.id).getD zeroC).fields.length ≤ 1000 := by
        cases hf : firstN G x.id with
        | none => exact Nat.zero_le _
        | some n => exact hG n (firstN_some hf).1
      exact ⟨h1, by omega, by omega⟩
    · exact chain_all hG h2.2 x hs
theorem home_local {V : List ViewE} {x : IDE} {v : ViewE} (h : V.find? (localB x) = some v) : (homeV V x).1 = v.machine := by unfold homeV; rw [h]
/-- What Format's lines want of a step that Check has let through. -/
theorem check_step {V : List ViewE} {P : List StepE} (h : checkB V P = true) (hM : ∀ v ∈ V, I64ok v.machine) {s : StepE} (hs : s ∈ P) : validIDB s.id = true ∧ I64ok s.field ∧ ((V.find? (localB s.id)).isSome = true → I64ok s.machine) := by
  unfold checkB at h
  simp only [Bool.and_eq_true] at h
  obtain ⟨h1, h2, h3⟩ := chain_all (fun n hn => Nat.le_trans (graph_fields hn) (by omega)) h.2 s hs
  unfold headB at h1
  rw [Bool.and_eq_true] at h1
  obtain ⟨n, hn⟩ := Option.isSome_iff_exists.1 h1.1
  obtain ⟨h4, h5⟩ := firstN_some hn
  have h6 := graph_node h4
  unfold validNodeB at h6
  rw [Bool.and_eq_true, h5] at h6
  refine ⟨((Bool.and_eq_true _ _).mp h6.1).2, ⟨by omega, by omega⟩, fun hl => ?_⟩
  obtain ⟨v, hv⟩ := Option.isSome_iff_exists.1 hl
  rw [← of_decide_eq_true h1.2, home_local hv]
  exact hM v (List.mem_of_find?_eq_some hv)
def FmtPost (V : List ViewE) (P : List StepE) (w : World) (r : Ending) (w' : World) : Prop := ∃ o A c, Hid (o = formatV V P) ∧ r = .returned (.slice A o.length c) ∧ Own strC 1 9 w.heap.size w' (.slice A o.length c) o ∧ Below w.heap.size w w'
set_option maxRecDepth 200000 in
set_option maxHeartbeats 8000000 in
theorem format_any (A : Option Addr) (c : Nat) (V : List ViewE) (PA : Option Addr) (pc : Nat) (P : List StepE) (w : World) (H : ViewsAt w A V) (hf : FewV V) (hP : SlAt StepE.cells 4 w PA P) (hl : P.length ≤ 1000) (hT : Tab10 w) (hM : ∀ v ∈ V, I64ok v.machine) :
    Calls Tryz.prog 22 #[.slice A V.length c, .slice PA P.length pc] w (FmtPost V P w) := by
  have HV := H.later
  have HT := hT.later
  have HP : ∀ u [Later w u], SlAt StepE.cells 4 u PA P := fun u i => hP.below i.below
  have HC : ∀ u [Later w u], Calls Tryz.prog 21 #[.slice A V.length c, .slice PA P.length pc] u fun r w' => r = .returned (.bool (checkB V P)) ∧ Below u.heap.size u w' := fun u i => check_any A c V PA pc P u (HV u) hf (HP u) hl
  have hl' : P.length ≤ 9223372036854775807 := by omega
  cases hc : checkB V P <;> simp only [hc] at HC
  · have hp := hide (show ([] : List (List UInt8)) = formatV V P by unfold formatV; rw [hc]; rfl)
    go_enter Tryz.func22, Tryz.ntmps22
    go_wp2_with (go_at_call 21; refine (HC _).mono ?_; rintro r w1 ⟨rfl, hb1⟩; have l1 := later hb1)
    go_ret
    exact ⟨[], none, 0, hp, rfl, Own.nil, below_of⟩
  have hfm := hide (show formatV V P = P.zipIdx.map (lineV V) by unfold formatV; rw [hc]; rfl)
  have Hst := fun s hs => hide (check_step hc hM (s := s) hs)
  have Hc := hide hc
  clear hc
  go_enter Tryz.func22, Tryz.ntmps22
  go_wp2_with (go_at_call 21; refine (HC _).mono ?_; rintro r w1 ⟨rfl, hb1⟩; have l1 := later hb1)
  go_loopw [5, 15] (fun ov iv wr => ∃ (k : Nat) (o : List (List UInt8)) (OA : Option Addr) (OC : Nat), k ≤ P.length ∧ ov = .slice OA o.length OC ∧ iv = .int .i64 k ∧ Hid (o = (P.zipIdx.take k).map (lineV V)) ∧ Hid (o.length = k) ∧ Own strC 1 9 w.heap.size wr (.slice OA o.length OC) o ∧ Below w.heap.size w wr) (fun _ iv _ => P.length - (intOf iv).toNat)
  case atStart => exact ⟨0, [], none, 0, by omega, rfl, rfl, hide rfl, hide rfl, Own.nil, below_of⟩
  case round =>
    obtain ⟨k, o, OA, OC, hk, rfl, rfl, ho, hok, hown, hbr⟩ := hrel
    have lr := later hbr
    have lww : Later w wr := ⟨hbr⟩
    have lrr : Later wr wr := Later.refl
    have hol : o.length ≤ 1000 := by rw [hok.out]; omega
    by_cases hlt : k < P.length
    · have hki : (k : Int) < (P.length : Int) := by omega
      obtain ⟨gs, os, s, rfl, hs, C1⟩ := StepE.get (HP wr) hlt
      have hz : P.zipIdx[k]? = some (s, k) := by rw [List.getElem?_zipIdx, hs]; simp
      have hT2 := hide (take_map_snoc (f := lineV V) hz)
      obtain ⟨h1, h2, h3⟩ := (Hst s (List.mem_of_getElem? hs)).out
      have HPl : ∀ u [Later w u], Calls Tryz.prog 48 #[.slice A V.length c, s.v] u fun r w' => r = .returned (.string (bs (placeV V s))) ∧ Below u.heap.size u w' := fun u i => place_any A c V s u (HV u) hf (HT u) h3
      have HFm : ∀ u [Later w u], Calls Tryz.prog 49 #[s.id.v] u fun r w' => r = .returned (.string (bs (nameB s.id))) ∧ Below u.heap.size u w' := fun u i => idFmt_any s.id h1 u (HT u)
      have HI : ∀ u [Later w u], Calls Tryz.prog 50 #[.int .i64 s.field] u fun r w' => r = .returned (.string (bs (Lib.itoa s.field))) ∧ Below u.heap.size u w' := fun u i => itoa_any h2 u (HT u)
      have z1 : (placeV V s).length ≤ 200 := by
        unfold placeV
        split
        · next h =>
          have := h3 h
          have := Lib.itoa_length_le s.machine this.1 this.2
          rw [List.length_cons]; omega
        · decide
      have z2 : (nameB s.id).length ≤ 200 := by
        obtain ⟨h4, h5⟩ := valid_ok h1
        have e1 := Lib.itoa_length_le s.id.machine h4.1 h4.2
        have e2 := Lib.itoa_length_le s.id.serial h5.1 h5.2
        unfold nameB
        simp only [List.length_cons, List.length_append]
        omega
      have z3 := Lib.itoa_length_le s.field h2.1 h2.2
      have hkz : (((k : Int)) == 0) = decide (k = 0) := by rw [Bool.eq_iff_iff]; simp
      obtain ⟨hd, hhd⟩ : ∃ l, l = (if k = 0 then rootB else thenB) := ⟨_, rfl⟩
      have z0 : hd.length ≤ 5 := by rw [hhd]; split <;> decide
      obtain ⟨s1, e1⟩ : ∃ l, l = placeV V s := ⟨_, rfl⟩
      obtain ⟨s2, e2⟩ : ∃ l, l = nameB s.id := ⟨_, rfl⟩
      obtain ⟨s3, e3⟩ : ∃ l, l = Lib.itoa s.field := ⟨_, rfl⟩
      have hlin : lineV V (s, k) = hd ++ ((s1 ++ [32]) ++ s2) ++ (if 0 ≤ s.field then fieldB ++ s3 else []) := by rw [hhd, e1, e2, e3]; rfl
      rw [hlin] at hT2
      rw [← e1] at HPl z1
      rw [← e2] at HFm z2
      rw [← e3] at HI z3
      have S1 : ∀ u : World, (Op.stringOp .add (bs s1) ⟨#[32]⟩).run Tryz.prog u = .ok (.string (bs (s1 ++ [32]))) u := sadd (y := [32]) (by simp; omega)
      have S2 : ∀ u : World, (Op.stringOp .add (bs (s1 ++ [32])) (bs s2)).run Tryz.prog u = .ok (.string (bs (s1 ++ [32] ++ s2))) u := sadd (by simp; omega)
      have S3 : ∀ u : World, (Op.stringOp .add (bs hd) (bs (s1 ++ [32] ++ s2))).run Tryz.prog u = .ok (.string (bs (hd ++ (s1 ++ [32] ++ s2)))) u := sadd (by simp; omega)
      have S4 : ∀ u : World, (Op.stringOp .add ⟨#[32, 102, 105, 101, 108, 100, 32]⟩ (bs s3)).run Tryz.prog u = .ok (.string (bs (fieldB ++ s3))) u := sadd (x := fieldB) (by simp [fieldB]; omega)
      have S5 : ∀ u : World, (Op.stringOp .add (bs (hd ++ (s1 ++ [32] ++ s2))) (bs (fieldB ++ s3))).run Tryz.prog u = .ok (.string (bs (hd ++ (s1 ++ [32] ++ s2) ++ (fieldB ++ s3)))) u := sadd (by simp [fieldB]; omega)
      obtain ⟨t1, f1⟩ : ∃ l, l = s1 ++ [32] := ⟨_, rfl⟩
      rw [← f1] at S1 S2 S3 S5 hT2
      obtain ⟨t2, f2⟩ : ∃ l, l = t1 ++ s2 := ⟨_, rfl⟩
      rw [← f2] at S2 S3 S5 hT2
      obtain ⟨t3, f3⟩ : ∃ l, l = hd ++ t2 := ⟨_, rfl⟩
      rw [← f3] at S3 S5 hT2
      obtain ⟨t4, f4⟩ : ∃ l, l = fieldB ++ s3 := ⟨_, rfl⟩
      rw [← f4] at S4 S5 hT2
      obtain ⟨t5, f5⟩ : ∃ l, l = t3 ++ t4 := ⟨_, rfl⟩
      have hT3 := hide (show ¬ 0 ≤ s.field → o ++ [t3] = (P.zipIdx.take (k + 1)).map (lineV V) from fun h => by rw [hT2.out, if_neg h, ← ho.out, List.append_nil])
      have hT4 := hide (show 0 ≤ s.field → o ++ [t5] = (P.zipIdx.take (k + 1)).map (lineV V) from fun h => by rw [hT2.out, if_pos h, ← ho.out, ← f5])
      rw [← f5] at S5
      have hlk1 : ∀ t : List UInt8, (o ++ [t]).length = o.length + 1 := fun t => by simp
      have hhd2 := hide hhd
      generalize hg1 : bs s1 = b1 at HPl S1
      generalize hg2 : bs s2 = b2 at HFm S2
      generalize hg3 : bs s3 = b3 at HI S4
      generalize hg4 : bs t1 = c1 at S1 S2
      generalize hg5 : bs t2 = c2 at S2 S3
      generalize hg6 : bs t4 = c4 at S4 S5
      clear hg1 hg2 hg3 hg4 hg5 hg6 e1 e2 e3 f1 f2 f3 f4 f5 hhd hT2 hlin z0 z1 z2 z3 h1 h2 h3 hz hs
      have hdb : (k = 0 ∧ hd = rootB) ∨ (k ≠ 0 ∧ hd = thenB) := by
        by_cases h : k = 0
        · exact .inl ⟨h, by rw [hhd2.out, if_pos h]⟩
        · exact .inr ⟨h, by rw [hhd2.out, if_neg h]⟩
      rcases hdb with ⟨hk0, rfl⟩ | ⟨hk0, rfl⟩
      · rw [decide_eq_true hk0] at hkz
        replace S3 : ∀ u : World, (Op.stringOp .add ⟨#[114, 111, 111, 116, 32]⟩ c2).run Tryz.prog u = .ok (.string (bs t3)) u := S3
        clear hk0
        go_upto_region 10 with fail
        refine wp_name ?_
        intro w5 hw5
        obtain ⟨B5, l5⟩ := box1 hw5
        have l55 : Later w5 w5 := Later.refl
        clear hw5
        (refine wp_region_after (by kernel_rfl) (by kernel_rfl) ?_
         repeat (any_goals (first | go_big_quiet_skip | (go_big_quiet_want; go_big_quiet_op; first | go_big_quiet_on | go_big_quiet_call ((first | (go_at_call 48; exact Calls.after (HPl _)) | (go_at_call 49; exact Calls.after (HFm _))))) | quiet_step ((first | (go_at_call 48; exact Calls.after (HPl _)) | (go_at_call 49; exact Calls.after (HFm _)))) | (refine wpQuiet_step (fun K hK => ?_); go_simp; split <;> (refine hK _ ?_; clear hK K))))
         all_goals (refine wpQuiet_nil ?_; intro _ hw'; obtain ⟨u', hw''⟩ := hw'; subst hw''; obtain ⟨wd, hbd⟩ := u'; simp only [After.val_mk]))
        have ld := later hbd
        by_cases hf0 : 0 ≤ s.field
        · have hq := hide (hT4.out hf0)
          clear hT3 hT4
          go_wp2_with (first
            | (go_at_call 50; refine (HI _).mono ?_; rintro r w8 ⟨rfl, hb8⟩; have l8 := later hb8)
            | (at_builtin; refine wpList_app1 rfl (.tmp 41) (.tmp 43) rfl strC.enc strT t5 rfl rfl rfl (hown.later _) (by first | rfl | (rw [strC]; rfl)) (by omega) (by unfold maxLen; omega) (Nat.le_trans lww.below.size (show Below wr.heap.size wr _ from below_of).size) ?_; intro A9 c9 w9 ho9 hm9 hb9 hg9 hat9; have hb9w : Below w.heap.size w w9 := (show Below w.heap.size w _ from below_of).trans hb9))
          go_roundw
          case rel => exact ⟨k + 1, o ++ [t5], A9, c9, by omega, by rw [hlk1], by go_num, hq, hide (by rw [hlk1, hok.out]), by rw [hlk1]; exact ho9, hb9w⟩
          case measure => simp [intOf]; omega
        · have hq := hide (hT3.out hf0)
          have hf1 : s.field < 0 := by omega
          clear hT3 hT4 hf0
          go_wp2_with (first
            | (go_at_call 50; refine (HI _).mono ?_; rintro r w8 ⟨rfl, hb8⟩; have l8 := later hb8)
            | (at_builtin; refine wpList_app1 rfl (.tmp 41) (.tmp 43) rfl strC.enc strT t3 rfl rfl rfl (hown.later _) (by first | rfl | (rw [strC]; rfl)) (by omega) (by unfold maxLen; omega) (Nat.le_trans lww.below.size (show Below wr.heap.size wr _ from below_of).size) ?_; intro A9 c9 w9 ho9 hm9 hb9 hg9 hat9; have hb9w : Below w.heap.size w w9 := (show Below w.heap.size w _ from below_of).trans hb9))
          go_roundw
          case rel => exact ⟨k + 1, o ++ [t3], A9, c9, by omega, by rw [hlk1], by go_num, hq, hide (by rw [hlk1, hok.out]), by rw [hlk1]; exact ho9, hb9w⟩
          case measure => simp [intOf]; omega
      · rw [decide_eq_false hk0] at hkz
        replace S3 : ∀ u : World, (Op.stringOp .add ⟨#[116, 104, 101, 110, 32]⟩ c2).run Tryz.prog u = .ok (.string (bs t3)) u := S3
        clear hk0
        go_upto_region 10 with fail
        refine wp_name ?_
        intro w5 hw5
        obtain ⟨B5, l5⟩ := box1 hw5
        have l55 : Later w5 w5 := Later.refl
        clear hw5
        (refine wp_region_after (by kernel_rfl) (by kernel_rfl) ?_
         repeat (any_goals (first | go_big_quiet_skip | (go_big_quiet_want; go_big_quiet_op; first | go_big_quiet_on | go_big_quiet_call ((first | (go_at_call 48; exact Calls.after (HPl _)) | (go_at_call 49; exact Calls.after (HFm _))))) | quiet_step ((first | (go_at_call 48; exact Calls.after (HPl _)) | (go_at_call 49; exact Calls.after (HFm _)))) | (refine wpQuiet_step (fun K hK => ?_); go_simp; split <;> (refine hK _ ?_; clear hK K))))
         all_goals (refine wpQuiet_nil ?_; intro _ hw'; obtain ⟨u', hw''⟩ := hw'; subst hw''; obtain ⟨wd, hbd⟩ := u'; simp only [After.val_mk]))
        have ld := later hbd
        by_cases hf0 : 0 ≤ s.field
        · have hq := hide (hT4.out hf0)
          clear hT3 hT4
          go_wp2_with (first
            | (go_at_call 50; refine (HI _).mono ?_; rintro r w8 ⟨rfl, hb8⟩; have l8 := later hb8)
            | (at_builtin; refine wpList_app1 rfl (.tmp 41) (.tmp 43) rfl strC.enc strT t5 rfl rfl rfl (hown.later _) (by first | rfl | (rw [strC]; rfl)) (by omega) (by unfold maxLen; omega) (Nat.le_trans lww.below.size (show Below wr.heap.size wr _ from below_of).size) ?_; intro A9 c9 w9 ho9 hm9 hb9 hg9 hat9; have hb9w : Below w.heap.size w w9 := (show Below w.heap.size w _ from below_of).trans hb9))
          go_roundw
          case rel => exact ⟨k + 1, o ++ [t5], A9, c9, by omega, by rw [hlk1], by go_num, hq, hide (by rw [hlk1, hok.out]), by rw [hlk1]; exact ho9, hb9w⟩
          case measure => simp [intOf]; omega
        · have hq := hide (hT3.out hf0)
          have hf1 : s.field < 0 := by omega
          clear hT3 hT4 hf0
          go_wp2_with (first
            | (go_at_call 50; refine (HI _).mono ?_; rintro r w8 ⟨rfl, hb8⟩; have l8 := later hb8)
            | (at_builtin; refine wpList_app1 rfl (.tmp 41) (.tmp 43) rfl strC.enc strT t3 rfl rfl rfl (hown.later _) (by first | rfl | (rw [strC]; rfl)) (by omega) (by unfold maxLen; omega) (Nat.le_trans lww.below.size (show Below wr.heap.size wr _ from below_of).size) ?_; intro A9 c9 w9 ho9 hm9 hb9 hg9 hat9; have hb9w : Below w.heap.size w w9 := (show Below w.heap.size w _ from below_of).trans hb9))
          go_roundw
          case rel => exact ⟨k + 1, o ++ [t3], A9, c9, by omega, by rw [hlk1], by go_num, hq, hide (by rw [hlk1, hok.out]), by rw [hlk1]; exact ho9, hb9w⟩
          case measure => simp [intOf]; omega
    · have hkk : k = P.length := by omega
      subst hkk
      have hoo := hide (show o = formatV V P by rw [ho.out, hfm.out]; congr 1; rw [List.take_of_length_le]; rw [List.length_zipIdx]; exact Nat.le_refl _)
      go_wp2_with fail
      go_ret
      exact ⟨o, OA, OC, hoo, rfl, hown, hbr⟩
end Go.Proofs.YtpkfenlfgdbkcaaGreatDoor

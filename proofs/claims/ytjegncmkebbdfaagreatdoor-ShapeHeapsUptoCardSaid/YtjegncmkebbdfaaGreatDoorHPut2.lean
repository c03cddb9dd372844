/-
  Contracts of the functions of this seat that each theorem names: what a call returns, and that it writes nothing that was there before. The conditions stand in each theorem.
-/
import Derived.Test.YtjegncmkebbdfaaGreatDoorGrp56
set_option linter.unusedSimpArgs false
set_option linter.unusedVariables false
namespace Go.Proofs.YtjegncmkebbdfaaGreatDoor
open Go.RowKit
attribute [local simp] heap_drew
attribute [local go_sem ↓] run_eql_id run_neq_id
def HPutPost (l : List NodeE) (w : World) (r : Ending) (w' : World) : Prop := ∃ P A c AA ac, r = .returned (.tuple #[.pointer (some ⟨P.gh, 0, none⟩), .slice AA l.length ac, .bool true]) ∧ HpAt w.heap.size w' (hpW P A c (setG (conL l) l.length)) ∧ SlAt W64.cells 1 w' AA (atL (conL l) l.length) ∧ Below w.heap.size w w'
theorem offW_le {L : List NodeC} (j : Nat) : offW L j ≤ (putW L).length := by
  have h1 : offW L L.length = (putW L).length := by unfold offW; rw [List.take_length]
  rcases Nat.lt_or_ge L.length j with h | h
  · unfold offW
    rw [List.take_of_length_le (by omega)]
    exact Nat.le_refl _
  · rw [← h1]; exact offW_mono h
set_option maxRecDepth 200000 in
set_option maxHeartbeats 16000000 in
theorem put_any (GA : Option Addr) (gc : Nat) (l : List NodeE) (w : World) (H : NodesAt w GA l) (hC : ClosedG l) (ht : cntG l ≤ 200) :
    Calls Tryz.prog 13 #[.agg #[.slice GA l.length gc]] w (HPutPost l w) := by
  have hN := H.later
  obtain ⟨L, hL⟩ : ∃ L, L = conL l := ⟨_, rfl⟩
  have hLl : L.length = l.length := by rw [hL]; unfold conL; rw [List.length_map]
  have hget : ∀ (k : Nat) (n : NodeE), l[k]? = some n → L[k]? = some n.con := fun k n hk => by rw [hL]; unfold conL; rw [List.getElem?_map, hk]; rfl
  have hv : ∀ n ∈ L, NodeOk n := fun n hn => ⟨valid16_node hC.valid n (by rw [← hL]; exact hn)⟩
  have hl200 : l.length ≤ 200 := by unfold cntG at ht; omega
  have hW : (putW L).length ≤ 800 := by
    have := putW_bound L
    unfold cntG fieldsN at ht
    rw [← hL] at ht
    omega
  have hoff : ∀ j, offW L j ≤ 800 := fun j => Nat.le_trans (offW_le j) hW
  have HNew := fun u : World => heapNew_any u
  unfold HPutPost
  rw [← hL]
  go_enter Tryz.func13, Tryz.ntmps13
  go_upto_region 1 with fail
  refine wp_name ?_
  intro w0 hw0
  obtain ⟨B0, l0⟩ := box1 hw0
  have lw0 : Later w w0 := l0 w
  have l00 : Later w0 w0 := Later.refl
  clear hw0
  go_upto_region 2 with (go_at_call 32; refine (HNew _).mono ?_; rintro r w1 ⟨⟨gh, gC, gL, gH, ⟨gO, gY, A1, c1, ws1⟩⟩, rfl, hP, hws, hA, hgy, hb1⟩; have l1 := later hb1)
  change ws1 = [] at hws
  change A1 = none at hA
  subst hws hA
  obtain ⟨P, hPe⟩ : ∃ P : HpE, P = ⟨gh, gC, gL, gH, ⟨gO, gY, none, c1, []⟩⟩ := ⟨_, rfl⟩
  have hPI : PutI L P w0 w1 0 none c1 none 0 [] 0 := ⟨by rw [hPe]; exact hP, Own.nil, fun j e => (by cases e), hb1⟩
  have hgh : P.gh = gh := by rw [hPe]
  have hgY : P.M.gY = gY := by rw [hPe]
  rw [← hgh]
  rw [← hgY] at hgy
  have Hpe := hide hPe
  have l01 : Later w0 w1 := ⟨hb1⟩
  clear hPe hP hgh hgY
  go_wp2_with fail
  go_loopw [6, 23] (fun av kv wr => ∃ (k : Nat) (A' : Option Addr) (c' : Nat) (AA : Option Addr) (ac : Nat), k ≤ l.length ∧ kv = .int .i64 k ∧ av = .slice AA k ac ∧ PutI L P w0 wr k A' c' AA ac (putW (L.take k)) k) (fun _ kv _ => l.length - (intOf kv).toNat)
  case atStart => exact ⟨0, none, c1, none, 0, by omega, rfl, rfl, hPI⟩
  clear hPI
  case round =>
    obtain ⟨k, A', c', AA, ac, hk, rfl, rfl, hI⟩ := hrel
    have lrr : Later wr wr := Later.refl
    have l0r : Later w0 wr := ⟨hI.bl⟩
    have lwr : Later w wr := lw0.trans l0r
    by_cases hlt : k < l.length
    rotate_left
    · have hk' : k = l.length := by omega
      subst hk'
      rw [show L.take l.length = L by rw [← hLl, List.take_length]] at hI
      obtain ⟨wE, hwE⟩ : ∃ y, y = wr := ⟨_, rfl⟩
      subst hwE
      have hbase : ∀ j, A' = some ⟨j, 0, none⟩ → w0.heap.size ≤ j := fun j e => by
        have h1 := hI.hp.mem.words.own
        rw [show (hpW P A' c' (putW L)).M.A = some ⟨j, 0, none⟩ from e] at h1
        exact h1.base_le
      have hown : ∀ u, Only (fun j => A' = some ⟨j, 0, none⟩) wE u → Own W64.cells 1 34 w0.heap.size u (.slice AA l.length ac) (atL L l.length) := fun u O => O.own hI.own (fun g hg e => hI.ap g e (hown_block hI.own hg))
      have hlat : ∀ u, Only (fun j => A' = some ⟨j, 0, none⟩) wE u → Below w0.heap.size w0 u := fun u O => hI.bl.trans (O.below hbase hI.bl.size)
      have hLn' : ∀ (j : Nat) (y : NodeE), l[j]? = some y → NodeOk y.con := fun j y hy => hv _ (List.mem_of_getElem? (hget j y hy))
      have hidx : ∀ (x : IDE) (u : World) [Later w u], (∃ y ∈ l, y.id = x) → Calls Tryz.prog 36 #[.agg #[.slice GA l.length gc], x.v] u (IdxPost l x u) := fun x u j hx => index16_any GA gc l x u (hN u) (by omega) hx
      have hp0 := hI.hp
      clear hlt hk HNew l1 hb1 hgy
      go_wp2_with fail
      go_loopw [75] (fun iv w' => ∃ i : Nat, i ≤ l.length ∧ iv = .int .i64 i ∧ HpAt w0.heap.size w' (hpW P A' c' (setG L i)) ∧ Only (fun j => A' = some ⟨j, 0, none⟩) wE w') (fun iv _ => l.length - (intOf iv).toNat)
      case atStart => exact ⟨0, by omega, rfl, hp0, Only.refl⟩
      clear hp0
      case round =>
        obtain ⟨i, hi, rfl, hpr, hor⟩ := hrel
        obtain ⟨wR, hwR⟩ : ∃ y, y = wr := ⟨_, rfl⟩
        subst hwR
        have hbR := hlat wR hor
        have l0R : Later w0 wR := ⟨hbR⟩
        have lwR : Later w wR := lw0.trans l0R
        have lRR : Later wR wR := Later.refl
        by_cases hlt : i < l.length
        rotate_left
        · have hi' : i = l.length := by omega
          subst hi'
          have hsl := ((hown wR hor).at_ W64.enc).2.2
          go_wp2_with fail
          refine bodyPost_ret (v := .tuple #[.pointer (some ⟨P.gh, 0, none⟩), .slice AA l.length ac, .bool true]) (by simp [results, Tryz.results13, go_sem]) rfl ⟨P, A', c', AA, ac, rfl, hpr.base lw0.below.size, hsl, lwR.below⟩
        obtain ⟨gx, ox, n, rfl, hn, NC, NF, -⟩ := (hN w).get hlt
        have hLi := hget i n hn
        have hok := hv _ (List.mem_of_getElem? hLi)
        have hrefs := hC.refs n (List.mem_of_getElem? hn)
        obtain ⟨gA, rfl⟩ := hI.own.isSome (by intro e; have h9 := congrArg List.length e; rw [atL_len] at h9; have h8 : ([] : List Int).length = 0 := rfl; omega)
        have hat : ∀ (j : Nat), j < l.length → ∀ u, Only (fun j => A' = some ⟨j, 0, none⟩) wE u → u.cell? ⟨gA, j, none⟩ = some (.int .u64 (adW (offW L j))) := fun j hj u O => by
          have := (hown u O).cell W64.enc (k := j) (x := adW (offW L j)) (by unfold atL; rw [List.getElem?_map, List.getElem?_range hj]; rfl) (j := 0) rfl
          simpa using this
        have hii : (i : Int) < (l.length : Int) := by omega
        obtain ⟨m1, m2, mk, mc, mA, mp, mf⟩ := n
        obtain ⟨aw, haw⟩ : ∃ y, y = adW (offW L i) := ⟨_, rfl⟩
        obtain ⟨q0, hq0⟩ : ∃ y, y = offW L i := ⟨_, rfl⟩
        have hobs0 := setG_objs hv i (by omega)
        dsimp only at NC NF hrefs
        go_upto_region 19 with fail
        refine wp_name ?_
        intro w2 hw2
        obtain ⟨B13, l2⟩ := box1 hw2
        clear hw2
        have lR2 : Later wR w2 := l2 wR
        have l02 : Later w0 w2 := l0R.trans lR2
        have lw2 : Later w w2 := lwR.trans lR2
        have l22 : Later w2 w2 := Later.refl
        have hor2 := hor.trans (Only.of_below (s := fun j => A' = some ⟨j, 0, none⟩) lR2.below)
        have hpr2 := hpr.below lR2.below
        have b13 := (B13 w2).1
        have n13 := hpr2.mem.notS b13 (by decide)
        have hdF0 := hdF_fields (⟨m1, m2, mk, mc, mf⟩ : NodeC)
        have hval : ∀ fv ∈ mf, validValB fv = true := fun fv hfv => hok.parts.1 fv hfv
        have hmf30 : mf.length ≤ 30 := by
          rcases hok.kinds with ⟨-, -, -, h⟩ | ⟨-, -, h⟩ | ⟨-, -, -, h⟩
          · exact h
          · have : mf.length = 1 := h
            omega
          · have : mf.length = 0 := h
            omega
        have Haw := hide haw
        have Hq0 := hide hq0
        clear haw hq0
        go_wp2_with fail
        go_loopw [83] (fun mv w' => ∃ m : Nat, m ≤ mf.length ∧ mv = .int .i64 m ∧ HpAt w0.heap.size w' (hpW P A' c' (setN L (setG L i) i mf m)) ∧ Only (fun j => A' = some ⟨j, 0, none⟩) w2 w') (fun mv _ => mf.length - (intOf mv).toNat)
        case atStart => exact ⟨0, by omega, rfl, hpr2, Only.refl⟩
        case round =>
          obtain ⟨m, hm, rfl, hpm, hom⟩ := hrel
          have horm := hor2.trans hom
          have hbr := hlat wr horm
          have l0r : Later w0 wr := ⟨hbr⟩
          have lwr : Later w wr := lw0.trans l0r
          have lrr : Later wr wr := Later.refl
          by_cases hltm : m < mf.length
          rotate_left
          · have hm' : m = mf.length := by omega
            subst hm'
            have hG : setN L (setG L i) i mf mf.length = setG L (i + 1) := by
              have hd : L.getD i ⟨0, 0, 0, 0, []⟩ = ⟨m1, m2, mk, mc, mf⟩ := by rw [List.getD_eq_getElem?_getD, hLi]; rfl
              conv => rhs; unfold setG
              rw [hd]
            rw [hG] at hpm
            clear hG
            go_wp2_with fail
            go_roundw
            case rel => exact ⟨i + 1, by omega, by go_num, hpm, horm⟩
            case measure => simp [intOf]; omega
          obtain ⟨gf, of_, fv, rfl, -, hfv, hc⟩ := (NF w).at_ hltm
          have CF : ∀ u [Later w u], u.cell? ⟨gf, of_ + m * 4, none⟩ = some (.int .i64 fv.kind) ∧ u.cell? ⟨gf, of_ + m * 4 + 1, none⟩ = some (.int .i64 fv.int) ∧ u.cell? ⟨gf, of_ + m * 4 + 2, none⟩ = some (.int .i64 fv.refMachine) ∧ u.cell? ⟨gf, of_ + m * 4 + 3, none⟩ = some (.int .i64 fv.refSerial) := fun u j => ⟨by
            have := cell_below (hc 0 _ rfl) j.below
            simpa using this, cell_below (hc 1 _ rfl) j.below, cell_below (hc 2 _ rfl) j.below, cell_below (hc 3 _ rfl) j.below⟩
          have hmi : (m : Int) < (mf.length : Int) := by omega
          go_upto_region 23 with fail
          refine wp_name ?_
          intro w4 hw4
          obtain ⟨B15, l4⟩ := box1 hw4
          clear hw4
          have lr4 : Later wr w4 := l4 wr
          have l04 : Later w0 w4 := l0r.trans lr4
          have lw4 : Later w w4 := lwr.trans lr4
          have l44 : Later w4 w4 := Later.refl
          have hp4 := hpm.below lr4.below
          have ho4 := hom.trans (Only.of_below (s := fun j => A' = some ⟨j, 0, none⟩) lr4.below)
          have hfvm := List.mem_of_getElem? hfv
          have hvB := hval fv hfvm
          have hFL : setN L (setG L i) i mf (m + 1) = (setN L (setG L i) i mf m).set (offW L i + 2 + m) (fldW L fv) := by
            show (setN L (setG L i) i mf m).set _ (fldW L (mf.getD m ⟨0, 0, 0, 0⟩)) = _
            rw [List.getD_eq_getElem?_getD, hfv]; rfl
          have hobm : Objs L (setN L (setG L i) i mf m) := setN_objs (n := ⟨m1, m2, mk, mc, mf⟩) hobs0 hLi m hm
          have hoi := hobm i _ hLi
          have hst := hdF_stands hok (show 0 < mf.length by omega)
          have hVW : ValW (setN L (setG L i) i mf m) (fldW L fv) := fldW_val hv hobm (fun h2 => by
            obtain ⟨y, hy, he⟩ := hrefs fv hfvm h2
            exact ⟨y.con, by rw [hL]; exact List.mem_map_of_mem hy, he⟩)
          have hmd : (m : Int) < (hdF ⟨m1, m2, mk, mc, mf⟩).fields := by rw [hdF0]; exact hmi
          obtain ⟨yw, hyw⟩ : ∃ y, y = fldW L fv := ⟨_, rfl⟩
          have HS : ∀ u [Later w4 u], Calls Tryz.prog 37 #[spP P.gh, .int .u64 aw, .int .i64 (m : Int), .int .u64 yw] u fun r w' => r = .returned (.int .i64 0) ∧ HpAt w0.heap.size w' (hpW P A' c' (setN L (setG L i) i mf (m + 1))) ∧ Only (fun j => A' = some ⟨j, 0, none⟩) u w' := fun u j => by
            rw [Haw.out, hyw]
            refine (hset_any (P := hpW P A' c' (setN L (setG L i) i mf m)) (hp4.later u) hoi hst hmd hVW).mono ?_
            intro r w' h
            refine ⟨h.ret, ?_, h.only⟩
            have := h.hp (hp4.later u)
            rw [hFL]
            exact this
          have CI : ∀ u [Later w4 u], u.cell? ⟨gA, i, none⟩ = some (.int .u64 aw) := fun u j => by
            rw [Haw.out]
            exact hat i hlt u ((hor2.trans ho4).trans (Only.of_below j.below))
          have CJ : ∀ (j : Nat), j < l.length → ∀ u [Later w4 u], u.cell? ⟨gA, j, none⟩ = some (.int .u64 (adW (offW L j))) := fun j hj u jj => hat j hj u ((hor2.trans ho4).trans (Only.of_below jj.below))
          clear hoi hst hVW hmd hobm hFL
          by_cases hk1 : fv.kind = 1
          · have hr1 : -2305843009213693952 ≤ fv.int ∧ fv.int ≤ 2305843009213693951 := by
              unfold validValB at hvB
              rw [if_neg (by omega), if_pos hk1] at hvB
              simp only [Bool.and_eq_true, decide_eq_true_eq] at hvB
              exact hvB.2
            have hyw1 : yw = encN fv.int := by rw [hyw]; unfold fldW; rw [if_pos hk1]
            have HF : ∀ u : World, Calls Tryz.prog 35 #[.int .i64 fv.int] u fun r w' => r = .returned (.tuple #[.int .u64 yw, .int .i64 0]) ∧ Below u.heap.size u w' := fun u => by rw [hyw1]; exact r01FromInt_any fv.int u hr1.1 hr1.2
            have hkb : (fv.kind == 1) = true := by rw [beq_iff_eq]; exact hk1
            clear hk1 hr1 hyw1 hyw hvB
            go_upto_region 28 with (go_at_call 35; refine (HF _).mono ?_; rintro r w5 ⟨rfl, hb5⟩; have l5 := later hb5)
            go_wp2_with (go_at_call 37; refine (HS _).mono ?_; rintro r w7 ⟨rfl, hp7, ho7⟩; have o47 := (Only.of_below (s := fun j => A' = some ⟨j, 0, none⟩) (show Below w4.heap.size w4 _ from below_of)).trans ho7)
            go_roundw
            case rel => exact ⟨m + 1, by omega, by go_num, hp7, ho4.trans o47⟩
            case measure => simp [intOf]; omega
          · have hkb : (fv.kind == 1) = false := by rw [beq_eq_false_iff_ne]; exact hk1
            by_cases hk2 : fv.kind = 2
            · have hkb2 : (fv.kind == 2) = true := by rw [beq_iff_eq]; exact hk2
              have hyw2 := hide (show yw = adW (offW L (idxC L fv.ref)) by rw [hyw]; unfold fldW; rw [if_neg hk1, if_pos hk2])
              have HI : ∀ u [Later w4 u], Calls Tryz.prog 36 #[.agg #[.slice (some ⟨gx, ox, none⟩) l.length gc], .agg #[.int .i64 fv.refMachine, .int .i64 fv.refSerial]] u fun r w' => ∃ j : Nat, r = .returned (.int .i64 (j : Int)) ∧ j < l.length ∧ (∀ u [Later w4 u], u.cell? ⟨gA, j, none⟩ = some (.int .u64 yw)) ∧ Below u.heap.size u w' := fun u jj => by
                have lwu : Later w u := lw4.trans jj
                refine (hidx fv.ref u (hrefs fv hfvm hk2)).mono ?_
                rintro r w' ⟨j, nj, hr, hnj, hxj, hno, hb⟩
                have hj := (List.getElem?_eq_some_iff.1 hnj.out).1
                have he : idxC L fv.ref = j := idxC_hit (hget j nj hnj.out) hxj.out (fun i' m' hi' hm' => by
                  have hlt' : i' < l.length := by omega
                  have h1 := hget i' _ (List.getElem?_eq_getElem hlt')
                  rw [h1] at hm'
                  injection hm' with hm'
                  subst hm'
                  exact hno.out i' _ hi' (List.getElem?_eq_getElem hlt'))
                refine ⟨j, hr, hj, fun u2 j2 => ?_, hb⟩
                rw [hyw2.out, he]
                exact CJ j hj u2
              clear hk1 hk2 hyw hvB CJ
              go_upto_region 28 with (go_at_call 36; refine (HI _).mono ?_; rintro r w5 ⟨j5, rfl, hj5, C5, hb5⟩; have l5 := later hb5; have l45 : Later w4 w5 := ⟨below_of⟩; have hj5' : (j5 : Int) < (l.length : Int) := by omega)
              go_wp2_with (go_at_call 37; refine (HS _).mono ?_; rintro r w7 ⟨rfl, hp7, ho7⟩; have o47 := (Only.of_below (s := fun j => A' = some ⟨j, 0, none⟩) (show Below w4.heap.size w4 _ from below_of)).trans ho7)
              go_roundw
              case rel => exact ⟨m + 1, by omega, by go_num, hp7, ho4.trans o47⟩
              case measure => simp [intOf]; omega
            · have hkb2 : (fv.kind == 2) = false := by rw [beq_eq_false_iff_ne]; exact hk2
              obtain rfl : yw = 0 := by rw [hyw]; unfold fldW; rw [if_neg hk1, if_neg hk2]
              clear hk1 hk2 hyw hvB
              go_upto_region 28 with fail
              go_wp2_with (go_at_call 37; refine (HS _).mono ?_; rintro r w7 ⟨rfl, hp7, ho7⟩; have o47 := (Only.of_below (s := fun j => A' = some ⟨j, 0, none⟩) (show Below w4.heap.size w4 _ from below_of)).trans ho7)
              go_roundw
              case rel => exact ⟨m + 1, by omega, by go_num, hp7, ho4.trans o47⟩
              case measure => simp [intOf]; omega
    obtain ⟨gx, ox, n, rfl, hn, NC, NF, -⟩ := (hN w).get hlt
    have hki : (k : Int) < (l.length : Int) := by omega
    have hLn := hget k n hn
    have hok := hv _ (List.mem_of_getElem? hLn)
    go_upto_region 9 with fail
    refine wp_name ?_
    intro w2 hw2
    obtain ⟨B8, B9, l2⟩ := box2 hw2
    have lr2 : Later wr w2 := l2 wr
    have l22 : Later w2 w2 := Later.refl
    clear hw2
    obtain ⟨g8, hg8⟩ : ∃ g, g = wr.heap.size := ⟨_, rfl⟩
    obtain ⟨g9, hg9⟩ : ∃ g, g = wr.heap.size + 1 := ⟨_, rfl⟩
    rw [← hg8] at B8
    rw [← hg9] at B9
    rw [← hg9, ← hg8]
    have hI2 := hI.below lr2.below
    obtain ⟨hd, hhd⟩ : ∃ hd, hd = hdN n.con := ⟨_, rfl⟩
    have h89 : g8 ≠ g9 := by omega
    have h98 : g9 ≠ g8 := by omega
    have Hg8 := hide hg8
    have Hg9 := hide hg9
    clear hg8 hg9
    have Hlr := hide lr2.below
    have hgb := hide (show wr.heap.size ≤ g9 by have := Hg9.out; omega)
    go_upto_if 37 with fail
    go_cut [] from 37 to 42 (fun w3 => w3.heap[g8]? = some (.cells n.arr 51 (0, 0)) ∧ w3.heap[g9]? = some (.cells #[.int .i64 hd.kind, .int .i64 hd.clas, .int .i64 hd.fields] 73 (0, 0)) ∧ Below wr.heap.size wr w3)
    case first =>
      by_cases hk3 : n.kind = 3
      · have hdk : hd = ⟨0, max n.clas 1, n.fields.length⟩ := by rw [hhd]; unfold hdN; rw [if_pos (show n.con.kind = 3 from hk3)]; rfl
        have hkb : (n.kind == 3) = true := by rw [beq_iff_eq]; exact hk3
        have c3 := ((B8 w2).2 3).1
        have c90 := (B9 w2).2 0
        have c91 := (B9 w2).2 1
        have b8 := (B8 w2).1
        have b9 := (B9 w2).1
        have Hk3 := hide hk3
        clear hk3 hhd
        by_cases hcl : n.clas < 1
        · have hmx : max n.clas 1 = 1 := by omega
          rw [hmx] at hdk
          have Hdk := hide hdk
          clear hdk hmx
          go_upto_region 10 with fail
          go_region_held3 (fun w' => w'.cell? ⟨g8, 3, none⟩ = some (.int .i64 n.clas)) (go_keep) (fail)
          all_goals
            go_wp2_with fail
            go_meet
            refine ⟨(blk_far (p := ⟨g9, 1, none⟩) h89 _).trans ((blk_far (p := ⟨g9, 0, none⟩) h89 _).trans b8), ?_, ((Hlr.out.setCell (p := ⟨g9, 0, none⟩) hgb.out _).setCell (p := ⟨g9, 1, none⟩) hgb.out _).drew⟩
            have := blk_set (blk_set b9 0 (.int .i64 0)) 1 (.int .i64 1)
            rw [Hdk.out]
            exact this
        · have hmx : max n.clas 1 = n.clas := by omega
          have hcl' : 1 ≤ n.clas := by omega
          rw [hmx] at hdk
          have Hdk := hide hdk
          clear hdk hmx
          go_upto_region 10 with fail
          go_region_held3 (fun w' => w'.cell? ⟨g8, 3, none⟩ = some (.int .i64 n.clas)) (go_keep) (fail)
          all_goals
            go_wp2_with fail
            go_meet
            refine ⟨(blk_far (p := ⟨g9, 1, none⟩) h89 _).trans ((blk_far (p := ⟨g9, 0, none⟩) h89 _).trans b8), ?_, ((Hlr.out.setCell (p := ⟨g9, 0, none⟩) hgb.out _).setCell (p := ⟨g9, 1, none⟩) hgb.out _).drew⟩
            have := blk_set (blk_set b9 0 (.int .i64 0)) 1 (.int .i64 n.clas)
            rw [Hdk.out]
            exact this
      · have hdk : hd = ⟨n.kind, n.clas, n.fields.length⟩ := by rw [hhd]; unfold hdN; rw [if_neg (show ¬ n.con.kind = 3 from hk3)]; rfl
        have hkb : (n.kind == 3) = false := by rw [beq_eq_false_iff_ne]; exact hk3
        have b8 := (B8 w2).1
        have b9 := (B9 w2).1
        have Hdk := hide hdk
        clear hk3 hhd hdk
        go_wp2_with fail
        go_meet
        exact ⟨b8, by rw [Hdk.out]; exact b9, Hlr.out⟩
    case rest =>
      obtain ⟨b8, b9, hbc⟩ := hcut
      have Hhd := hide hhd
      have lrc : Later wr wc := ⟨hbc⟩
      have lwc : Later w wc := lwr.trans lrc
      have l0c : Later w0 wc := l0r.trans lrc
      have lcc : Later wc wc := Later.refl
      have hIc := hI.below hbc
      have E8 := boxed b8
      have E9 := boxed b9
      clear B8 B9 l2 lr2 l22 hI2 hI hhd Hlr
      have hm30 := hdN_fields n.con
      rw [← Hhd.out] at hm30
      obtain ⟨m, hm⟩ : ∃ m, m = n.fields.length := ⟨_, rfl⟩
      have hmf : hd.fields = (m : Int) := by rw [hm]; exact hm30
      have hokd := hdN_ok hok
      rw [← Hhd.out] at hokd
      have hmb : m ≤ 30 := by have := hokd.1.f; omega
      have hmk : ∀ u : World, (Instr.makeSlice 38 (.int .i64 hd.fields) (.int .i64 hd.fields)).run Tryz.prog u = .ok (.slice (some ⟨u.heap.size, 0, none⟩) m m) (u.alloc (.cells (Array.replicate m (.int .u64 0)) 34)) := fun u => by rw [hmf]; exact make_w64 u m (by omega)
      have hos : offW L (k + 1) = offW L k + hd.sz := by rw [Hhd.out]; exact offW_succ hLn
      have hx := hok.parts.2.1
      obtain ⟨aw, haw⟩ : ∃ y, y = adW (offW L k) := ⟨_, rfl⟩
      have Haw := hide haw
      have HA : Calls Tryz.prog 33 #[spP P.gh, hd.v, .agg #[.int .i64 n.iDMachine, .int .i64 n.iDSerial], .slice (some ⟨wc.heap.size, 0, none⟩) m m] (wc.alloc (.cells (Array.replicate m (.int .u64 0)) 34)).drew fun r w' => r = .returned (.tuple #[.int .u64 aw, .int .i64 0]) ∧ ∃ A2 c2, HpAt w0.heap.size w' (hpW P A2 c2 (putW (L.take k) ++ objW hd n.con.id)) ∧ Only (alS P A') wc w' ∧ (A2 = A' ∨ ∃ j, A2 = some ⟨j, 0, none⟩ ∧ wc.heap.size ≤ j) := by
        have hbu : Below wc.heap.size wc (wc.alloc (.cells (Array.replicate m (.int .u64 0)) 34)).drew := ((Below.refl _ wc).alloc (Nat.le_refl _) _).drew
        have := halloc_any (P := hpW P A' c' (putW (L.take k))) (fb := wc.heap.size) (hIc.hp.below hbu) hokd.1 hx hokd.2.1 hokd.2.2 (by
          show (putW (L.take k)).length + hd.sz ≤ 5000
          have := hoff (k + 1)
          unfold offW at hos this
          omega) (Nat.le_trans l0c.below.size hbu.size) hmf.symm (heap_alloc_new wc _) (fun e => by have := hIc.hp.mem.gw _ e; omega)
        refine this.mono ?_
        rintro r w' ⟨h1, A2, c2, h2, h3, h4⟩
        exact ⟨by rw [haw]; exact h1, A2, c2, h2, (Only.of_below hbu).trans h3, h4.imp id (fun ⟨i, e, hi⟩ => ⟨i, e, Nat.le_trans hbu.size hi⟩)⟩
      clear haw
      have n8 := alS_not hIc.hp b8 (by decide) (by decide)
      have n9 := alS_not hIc.hp b9 (by decide) (by decide)
      have cx : ∀ u [Later wc u], u.cell? ⟨g8, 0, none⟩ = some (.int .i64 n.iDMachine) ∧ u.cell? ⟨g8, 1, none⟩ = some (.int .i64 n.iDSerial) ∧ u.cell? ⟨g9, 0, none⟩ = some (.int .i64 hd.kind) ∧ u.cell? ⟨g9, 1, none⟩ = some (.int .i64 hd.clas) ∧ u.cell? ⟨g9, 2, none⟩ = some (.int .i64 hd.fields) := fun u j => ⟨((E8 u).2 0).1, ((E8 u).2 1).1, ((E9 u).2 0).1, ((E9 u).2 1).1, ((E9 u).2 2).1⟩
      obtain ⟨c0, c1', c2, c3, c4⟩ := cx wc
      have Hmf := hide hmf
      have Hm := hide hm
      clear hmf hm hm30
      go_upto_region 11 with fail
      go_region_held3 (fun w' => w'.cell? ⟨g8, 0, none⟩ = some (.int .i64 n.iDMachine) ∧ w'.cell? ⟨g8, 1, none⟩ = some (.int .i64 n.iDSerial) ∧ w'.cell? ⟨g9, 0, none⟩ = some (.int .i64 hd.kind) ∧ w'.cell? ⟨g9, 1, none⟩ = some (.int .i64 hd.clas) ∧ w'.cell? ⟨g9, 2, none⟩ = some (.int .i64 hd.fields)) (first | exact cx _ | exact cy)
        ((go_at_call 33
          refine HA.mono ?_
          rintro r w5 ⟨rfl, A2, c2, hp5, oc5, hA⟩
          have l55 : Later w5 w5 := Later.refl
          have D8 := boxed (oc5.boxed b8 n8)
          have D9 := boxed (oc5.boxed b9 n9)
          have cy : w5.cell? ⟨g8, 0, none⟩ = some (.int .i64 n.iDMachine) ∧ w5.cell? ⟨g8, 1, none⟩ = some (.int .i64 n.iDSerial) ∧ w5.cell? ⟨g9, 0, none⟩ = some (.int .i64 hd.kind) ∧ w5.cell? ⟨g9, 1, none⟩ = some (.int .i64 hd.clas) ∧ w5.cell? ⟨g9, 2, none⟩ = some (.int .i64 hd.fields) := ⟨((D8 w5).2 0).1, ((D8 w5).2 1).1, ((D9 w5).2 0).1, ((D9 w5).2 1).1, ((D9 w5).2 2).1⟩))
      have hown5 := oc5.own hIc.own (fun g hg e => by
        rcases e with e | e
        · exact own_off hIc.own (show wc.heap[P.M.gY]? = _ from hIc.hp.mem.young) (by decide) (by rw [hg, e])
        · exact hIc.ap g e (hown_block hIc.own hg))
      have hap5 : ∀ j, A2 = some ⟨j, 0, none⟩ → AA ≠ some ⟨j, 0, none⟩ := fun j e e2 => by
        rcases hA with h | ⟨i, h, hi⟩
        · exact hIc.ap j (h ▸ e) e2
        · rw [h] at e
          injection e with e
          injection e with e
          have := (World.ownsRow.lt hIc.own j (by rw [e2]; rfl)).2
          omega
      have hbl5 : Below w0.heap.size w0 w5 := hIc.bl.trans (oc5.below (fun j e => by
        rcases e with e | e
        · rw [e]; exact hgy
        · have h1 := hIc.hp.mem.words.own
          rw [show (hpW P A' c' (putW (L.take k))).M.A = some ⟨j, 0, none⟩ from e] at h1
          exact h1.base_le) hIc.bl.size)
      have hobj : ObjAt (putW (L.take k) ++ objW hd n.con.id) (offW L k) hd n.con.id := obj_new hokd.1 hx
      have hstd : standsB hd = false := by unfold standsB; exact decide_eq_false (by rintro (e | e); exact hokd.2.1 e; exact hokd.2.2 e)
      have hsn := putW_snoc hLn
      have D8' := D8
      by_cases hk3 : n.kind = 3
      · have hkb : (n.kind == 3) = true := by rw [beq_iff_eq]; exact hk3
        have hf0 : hd.fields ≤ 2 := by
          rw [Hmf.out, Hm.out]
          rcases hok.kinds with ⟨h, -⟩ | ⟨h, -⟩ | ⟨-, -, -, h⟩
          · have : n.con.kind = 3 := hk3
            rcases h with h | h <;> omega
          · have : n.con.kind = 3 := hk3
            omega
          · have : n.fields.length = 0 := h
            omega
        have hnw : stubW (putW (L.take k) ++ objW hd n.con.id) (offW L k) hd = putW (L.take (k + 1)) := by
          rw [hsn]
          unfold nodeW
          rw [if_pos (show n.con.kind = 3 from hk3), ← Hhd.out]
          exact stubW_app _ _ _
        have HT : ∀ u [Later w5 u], Calls Tryz.prog 34 #[spP P.gh, .int .u64 aw, .int .i64 2, .int .u64 7] u fun r w' => r = .returned (.int .i64 0) ∧ HpAt w0.heap.size w' (hpW P A2 c2 (putW (L.take (k + 1)))) ∧ Only (fun j => A2 = some ⟨j, 0, none⟩) u w' := fun u j => by
          rw [Haw.out]
          refine (htoStub_any (P := hpW P A2 c2 (putW (L.take k) ++ objW hd n.con.id)) (hp5.later u) hobj hstd hf0).mono ?_
          intro r w' h
          refine ⟨h.ret, ?_, h.only⟩
          have := h.hp (hp5.later u)
          rw [← hnw]
          exact this
        clear hk3 hf0 hnw hobj hstd hsn cx cy c0 c1' c3 c4
        go_upto_region 14 with (go_at_call 34; refine (HT _).mono ?_; rintro r w6 ⟨rfl, hp6, ho6⟩; have o56 := (Only.of_below (s := fun j => A2 = some ⟨j, 0, none⟩) (show Below w5.heap.size w5 _ from below_of)).trans ho6)
        have hown6 := o56.own hown5 (fun g hg e => hap5 g e (hown_block hown5 hg))
        have hbl6 : Below w0.heap.size w0 w6 := hbl5.trans (o56.below (fun j e => by
          have h1 := hp5.mem.words.own
          rw [show (hpW P A2 c2 (putW (L.take k) ++ objW hd n.con.id)).M.A = some ⟨j, 0, none⟩ from e] at h1
          exact h1.base_le) hbl5.size)
        have l66 : Later w6 w6 := Later.refl
        have hl16 : k + 1 ≤ 1000000 := by omega
        have hbs : (k + 1) * 8 ≤ 140737488355328 := by omega
        have hzb := (hbl6).size
        obtain ⟨al, hal⟩ : ∃ al, al = atL L k := ⟨_, rfl⟩
        have hall : al.length = k := by rw [hal]; exact atL_len L k
        rw [← hal] at hown6
        have Hal := hide hal
        clear hal
        go_upto_region 15 with (at_builtin; refine wpList_app1 rfl (.tmp 67) (.tmp 69) rfl W64.enc w64T aw rfl rfl rfl hown6 (by rfl) (by rw [hall]; exact hbs) (by rw [hall]; unfold maxLen; omega) hzb ?_; intro A9 c9 w9 ho9 hm9 hb9 hg9 hat9)
        rw [hall] at ho9 hat9
        try simp only [hall]
        have o69 : Only (fun j => AA = some ⟨j, 0, none⟩) w6 w9 := ⟨hg9.os, hg9.tape, hg9.output, hg9.size, fun j hj hne => hg9.block j hj (fun e => hne (hown_block hown6 (by first | exact e | exact e.symm)))⟩
        have hown0 := hown6
        have nT : ∀ j, AA = some ⟨j, 0, none⟩ → ∃ cs, (w6).heap[j]? = some (.cells cs 34 (0, 0)) := fun j e => own_type hown0 (by rw [e]; rfl)
        have hp9 : HpAt w0.heap.size w9 (hpW P A2 c2 (putW (L.take (k + 1)))) := (hp6).frame o69
          (fun e => by obtain ⟨cs, hc⟩ := nT _ e; exact ne_types hc (hp6).hd (by decide) rfl)
          (fun e => by obtain ⟨cs, hc⟩ := nT _ e; exact ne_types hc (hp6).log (by decide) rfl)
          (fun e => by obtain ⟨cs, hc⟩ := nT _ e; exact ne_types hc (hp6).mem.old (by decide) rfl)
          (fun e => by obtain ⟨cs, hc⟩ := nT _ e; exact ne_types hc (hp6).mem.young (by decide) rfl)
          (fun j e e2 => hap5 j e e2)
        have hap9 : ∀ j, A2 = some ⟨j, 0, none⟩ → A9 ≠ some ⟨j, 0, none⟩ := fun j e e2 => by
          have hob : (Value.slice A9 (k + 1) c9).ownBlock = some j := by rw [e2]; rfl
          rcases hat9 with h | ⟨g, hg, h⟩
          · rw [hob] at h
            exact hap5 j e (hown_block hown0 h.symm)
          · rw [hob] at h
            injection h with h
            have := (hp6).mem.gw j e
            omega
        have hbl9 : Below w0.heap.size w0 w9 := (hbl6).trans hb9
        have hal9 : al ++ [aw] = atL L (k + 1) := by rw [Hal.out, Haw.out, atL_succ]
        rw [hal9] at ho9
        have hPI9 : PutI L P w0 w9 (k + 1) A2 c2 A9 c9 (putW (L.take (k + 1))) (k + 1) := ⟨hp9, ho9, hap9, hbl9⟩
        clear hp9 ho9 hap9 hat9 nT hown0 o69 hal9 hg9 hb9
        go_wp2_with fail
        go_roundw
        case rel => exact ⟨k + 1, A2, c2, A9, c9, by omega, by go_num, rfl, hPI9⟩
        case measure => simp [intOf]; omega
      · have hkb : (n.kind == 3) = false := by rw [beq_eq_false_iff_ne]; exact hk3
        have hp6 : HpAt w0.heap.size w5 (hpW P A2 c2 (putW (L.take (k + 1)))) := by
          rw [hsn]
          unfold nodeW
          rw [if_neg (show ¬ n.con.kind = 3 from hk3), ← Hhd.out]
          exact hp5
        clear hk3 hobj hstd hsn cx cy c0 c1' c3 c4
        go_upto_region 14 with fail
        have hl16 : k + 1 ≤ 1000000 := by omega
        have hbs : (k + 1) * 8 ≤ 140737488355328 := by omega
        have hzb := (hbl5).size
        obtain ⟨al, hal⟩ : ∃ al, al = atL L k := ⟨_, rfl⟩
        have hall : al.length = k := by rw [hal]; exact atL_len L k
        rw [← hal] at hown5
        have Hal := hide hal
        clear hal
        go_upto_region 15 with (at_builtin; refine wpList_app1 rfl (.tmp 67) (.tmp 69) rfl W64.enc w64T aw rfl rfl rfl hown5 (by rfl) (by rw [hall]; exact hbs) (by rw [hall]; unfold maxLen; omega) hzb ?_; intro A9 c9 w9 ho9 hm9 hb9 hg9 hat9)
        rw [hall] at ho9 hat9
        try simp only [hall]
        have o69 : Only (fun j => AA = some ⟨j, 0, none⟩) w5 w9 := ⟨hg9.os, hg9.tape, hg9.output, hg9.size, fun j hj hne => hg9.block j hj (fun e => hne (hown_block hown5 (by first | exact e | exact e.symm)))⟩
        have hown0 := hown5
        have nT : ∀ j, AA = some ⟨j, 0, none⟩ → ∃ cs, (w5).heap[j]? = some (.cells cs 34 (0, 0)) := fun j e => own_type hown0 (by rw [e]; rfl)
        have hp9 : HpAt w0.heap.size w9 (hpW P A2 c2 (putW (L.take (k + 1)))) := (hp6).frame o69
          (fun e => by obtain ⟨cs, hc⟩ := nT _ e; exact ne_types hc (hp6).hd (by decide) rfl)
          (fun e => by obtain ⟨cs, hc⟩ := nT _ e; exact ne_types hc (hp6).log (by decide) rfl)
          (fun e => by obtain ⟨cs, hc⟩ := nT _ e; exact ne_types hc (hp6).mem.old (by decide) rfl)
          (fun e => by obtain ⟨cs, hc⟩ := nT _ e; exact ne_types hc (hp6).mem.young (by decide) rfl)
          (fun j e e2 => hap5 j e e2)
        have hap9 : ∀ j, A2 = some ⟨j, 0, none⟩ → A9 ≠ some ⟨j, 0, none⟩ := fun j e e2 => by
          have hob : (Value.slice A9 (k + 1) c9).ownBlock = some j := by rw [e2]; rfl
          rcases hat9 with h | ⟨g, hg, h⟩
          · rw [hob] at h
            exact hap5 j e (hown_block hown0 h.symm)
          · rw [hob] at h
            injection h with h
            have := (hp6).mem.gw j e
            omega
        have hbl9 : Below w0.heap.size w0 w9 := (hbl5).trans hb9
        have hal9 : al ++ [aw] = atL L (k + 1) := by rw [Hal.out, Haw.out, atL_succ]
        rw [hal9] at ho9
        have hPI9 : PutI L P w0 w9 (k + 1) A2 c2 A9 c9 (putW (L.take (k + 1))) (k + 1) := ⟨hp9, ho9, hap9, hbl9⟩
        clear hp9 ho9 hap9 hat9 nT hown0 o69 hal9 hg9 hb9
        go_wp2_with fail
        go_roundw
        case rel => exact ⟨k + 1, A2, c2, A9, c9, by omega, by go_num, rfl, hPI9⟩
        case measure => simp [intOf]; omega
end Go.Proofs.YtjegncmkebbdfaaGreatDoor

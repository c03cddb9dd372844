/-
  Contracts of the functions of this seat that each theorem names: what a call returns, and that it writes nothing that was there before. The conditions stand in each theorem.
-/
import Derived.Test.YthigjlllhnajbaaC25DecPlain
import Derived.Test.YthigjlllhnajbaaWireRead7
import Derived.Test.YthigjlllhnajbaaC25Awake
namespace Go.Proofs.Ythigjlllhnajbaa
open Go.RowKit
theorem RD.drew {wb : World} {g : Nat} {w : World} {st : St} (h : RD wb g w st) : RD wb g w.drew st := ⟨h.lw.drew, h.gw, h.s, h.by_⟩
theorem RD.below {wb : World} {g : Nat} {w w' : World} {st : St} (h : RD wb g w st) (hb : Below w.heap.size w w') : RD wb g w' st := by
  obtain ⟨A, c, h1, h2, h3, h4⟩ := h.s
  exact ⟨h.lw.trans (hb.mono h.lw.size), h.gw, ⟨A, c, h1, h2, h3, (hb.block g (blk_lt h4)).trans h4⟩, h.by_⟩
theorem Only.of_grown {w w' : World} {row : Option Nat} (hg : w.grownBy w' row) : Only (fun k => row = some k) w w' := by
  obtain ⟨a, b, c, d, e⟩ := hg
  exact ⟨a, b, c, d, fun k hk hn => e k hk (fun h => hn (by first | exact h | exact h.symm))⟩
theorem RD.only {wb : World} {g : Nat} {w w' : World} {st : St} {s : Nat → Prop} (h : RD wb g w st) (ho : Only s w w') (hs : ∀ k, s k → wb.heap.size ≤ k ∧ k ≠ g) : RD wb g w' st := by
  obtain ⟨A, c, h1, h2, h3, h4⟩ := h.s
  exact ⟨h.lw.trans (ho.below (fun k hk => (hs k hk).1) h.lw.size), h.gw, ⟨A, c, h1, h2, h3, ho.boxed h4 (fun e => (hs g e).2 rfl)⟩, h.by_⟩
/-- What Decode leaves (closed to the walk's simp). -/
def DecPost (b : List Int) (w : World) (r : Ending) (w' : World) : Prop := ∃ (R S C : Int) (es : List ListedE) (e : Int) (A : Option Addr) (c : Nat), Hid (decL b = ((R, S, C), es, e)) ∧ r = .returned (.tuple #[.agg #[.int .i64 R, .int .i64 S, .int .i64 C, .slice A es.length c], .int .i64 e]) ∧
  Own ListedE.cells 3 64 w.heap.size w' (.slice A es.length c) es ∧ Below w.heap.size w w'
set_option maxRecDepth 100000 in
set_option maxHeartbeats 4000000 in
theorem decode_any (bA : Option Addr) (bC : Nat) (b : List Int) (w : World) (hs : SlAt U8.cells 1 w bA b) (hl : b.length ≤ 1000000) (hb : Bytes b) :
    Calls Try.prog 29 #[.slice bA b.length bC] w (DecPost b w) := by
  go_enter Try.func29, Try.ntmps29
  go_upto_region 1 with fail
  refine wp_name ?_
  intro w1 hw1
  have l1 := later_name' hw1 (inferInstance : Later w _)
  have h1 : w1.heap[w.heap.size]? = some (.cells #[.int .i64 0, .int .i64 0, .int .i64 0, .slice none 0 0] 26 (0, 0)) := (by rw [← hw1]; simp only [heap_alloc_if, World.size_alloc]; repeat (first | rw [if_pos trivial] | rw [if_neg (by omega)] | rw [if_pos (by omega)]); try rfl)
  have hbel1 : Below w.heap.size w w1 := below_of
  clear hw1
  go_wp2_with (go_at_call 48; refine (new_any bA bC b _ (hs.below hbel1) (by omega) hb).mono ?_)
  intro r w2 hh2
  obtain ⟨wb, g, rfl, R2, hwb, hb2⟩ := hh2
  have hg1 : w1.heap.size ≤ g := Nat.le_trans hwb.size R2.gw
  have hs1 := blk_lt h1
  have h2 := (hb2.block _ hs1).trans h1
  go_wp2_with (go_at_call 49; refine (int_any wb g _ _ R2).mono ?_)
  intro r w3 hh3
  obtain ⟨rfl, R3, on3⟩ := hh3
  go_wp2_with (go_at_call 49; refine (int_any wb g _ _ R3).mono ?_)
  intro r w4 hh4
  obtain ⟨rfl, R4, on4⟩ := hh4
  go_wp2_with (go_at_call 49; refine (int_any wb g _ _ R4).mono ?_)
  intro r w5 hh5
  obtain ⟨rfl, R5, on5⟩ := hh5
  have on25 := (on3.trans on4).trans on5
  have h5 := on25.boxed h2 (by omega)
  have hH := hide (show rdH b = ((unzig (rdU (b, 0)).1, unzig (rdU (rdU (b, 0)).2).1, unzig (rdU (rdU (rdU (b, 0)).2).2).1), (rdU (rdU (rdU (b, 0)).2).2).2) from rfl)
  obtain ⟨R, hR⟩ : ∃ R, R = unzig (rdU (b, 0)).1 := ⟨_, rfl⟩
  obtain ⟨S, hS⟩ : ∃ S, S = unzig (rdU (rdU (b, 0)).2).1 := ⟨_, rfl⟩
  obtain ⟨C, hC⟩ : ∃ C, C = unzig (rdU (rdU (rdU (b, 0)).2).2).1 := ⟨_, rfl⟩
  obtain ⟨s3, hs3⟩ : ∃ s3, s3 = (rdU (rdU (rdU (b, 0)).2).2).2 := ⟨_, rfl⟩
  rw [← hs3] at R5
  rw [← hR, ← hS, ← hC, ← hs3] at hH
  rw [← hR, ← hS, ← hC]
  clear hR hS hC hs3 R2 R3 R4 on3 on4 on5
  go_upto_region 3 with fail
  refine wp_name ?_
  intro w6 hw6
  have l6 := later_name' hw6 (inferInstance : Later w5 _)
  have hbel6 : Below w5.heap.size w5 w6 := below_of
  have hl6 : w6.heap[w5.heap.size]? = some (.cells #[.int .i64 R, .int .i64 S, .int .i64 C, .slice none 0 0] 26 (0, 0)) := (by rw [← hw6]; simp only [heap_alloc_if, World.size_alloc]; repeat (first | rw [if_pos trivial] | rw [if_neg (by omega)] | rw [if_pos (by omega)]); try rfl)
  clear hw6
  have R6 := R5.below hbel6
  have h6 := (hbel6.block _ (blk_lt h5)).trans h5
  have hg5 : g < w5.heap.size := by obtain ⟨A, c, _, _, _, h⟩ := R5.s; exact blk_lt h
  have HC := count_any wb g 1024 s3 w6 R6 (by decide) (by decide)
  have hN := hide (show rdN b = rdC 1024 s3 by unfold rdN; rw [hH.out])
  have hrc := rdC_range (m := 1024) (by decide) R6.by_
  obtain ⟨n0, s4, hns⟩ : ∃ n0 s4, rdC 1024 s3 = (n0, s4) := ⟨_, _, rfl⟩
  rw [hns] at HC hN hrc
  simp only at hrc
  obtain ⟨n, rfl⟩ : ∃ n : Nat, n0 = (n : Int) := ⟨n0.toNat, by omega⟩
  clear hns R5
  go_wp2_with (go_at_call 50; refine HC.mono ?_)
  intro r w7 hh7
  obtain ⟨rfl, R7, on7⟩ := hh7
  have h7 := on7.boxed h6 (by omega)
  have hl7 := on7.boxed hl6 (by omega)
  have hL := hide (show rdL b = rdEs n s4 by unfold rdL; rw [hN.out]; simp)
  have hn64 : n ≤ 1024 := by omega
  clear HC R6
  have hs7 := blk_lt hl7
  go_wp2_with fail
  go_loopw [18] (fun i wr => ∃ (k : Nat) (A : Option Addr) (c : Nat) (es : List ListedE) (st : St), k ≤ n ∧ i = .int .i64 k ∧ rdEs k s4 = (es, st) ∧ RD wb g wr st ∧ Own ListedE.cells 3 64 w7.heap.size wr (.slice A es.length c) es ∧
      wr.heap[w5.heap.size]? = some (.cells #[.int .i64 R, .int .i64 S, .int .i64 C, .slice A es.length c] 26 (0, 0)) ∧ Only (fun k => k = g ∨ k = w5.heap.size) w7 wr) (fun i _ => n - (intOf i).toNat)
  case atStart => exact ⟨0, none, 0, [], s4, by omega, rfl, rfl, R7, Own.nil, hl7, Only.refl⟩
  case round =>
    obtain ⟨k, A, c, es, st, hk, rfl, hes, Rr, hown, hlr, honr⟩ := hrel
    have hlen := hide (show es.length = k by have := rdEs_len k s4; rw [hes] at this; exact this)
    have BL := boxed hlr
    have hzr := honr.size
    have hgw := Rr.gw
    by_cases hlt : k < n
    · obtain ⟨⟨nu, su⟩, hU⟩ : ∃ x, rdU st = x := ⟨_, rfl⟩
      obtain ⟨⟨ni, si⟩, hI⟩ : ∃ x, rdU su = x := ⟨_, rfl⟩
      obtain ⟨⟨vb, sb⟩, hB⟩ : ∃ x, rdB si = x := ⟨_, rfl⟩
      have HU : ∀ W, RD wb g W st → Calls Try.prog 51 #[.pointer (some ⟨g, 0, none⟩)] W (RPost (.int .u64 nu) wb g su W) := fun W R => by have := uint_any wb g st W R; rw [hU] at this; exact this
      have HI : ∀ W, RD wb g W su → Calls Try.prog 49 #[.pointer (some ⟨g, 0, none⟩)] W (RPost (.int .i64 (unzig ni)) wb g si W) := fun W R => by have := int_any wb g su W R; rw [hI] at this; exact this
      have HB : ∀ W, RD wb g W si → Calls Try.prog 52 #[.pointer (some ⟨g, 0, none⟩)] W (RPost (.bool vb) wb g sb W) := fun W R => by have := bool_any wb g si W R; rw [hB] at this; exact this
      have hE := hide (show rdE st = (⟨nu, unzig ni, vb⟩, sb) by simp [rdE, hU, hI, hB])
      have Hes := hide hes
      have hne : ¬ w5.heap.size = g := by omega
      have hno : ∀ j, (Value.slice A es.length c).ownBlock = some j → ¬ j = g := fun j e e2 => by
        have := (World.ownsRow.lt hown _ e).1
        omega
      have hno2 : ∀ j, (Value.slice A es.length c).ownBlock = some j → ¬ j = w5.heap.size := fun j e e2 => by
        have := (World.ownsRow.lt hown _ e).1
        omega
      have hlen' := hlen.out
      have hel : es.length ≤ 1024 := by omega
      clear hU hI hB hes hlen'
      go_upto_region 5 with fail
      refine wp_region_held_drew (S := fun _ => True) (by kernel_rfl) trivial (fun hHeld => ?_)
      refine wpAnyH_take (i := 0) (oi := _) (v := ?_) rfl (by kernel_rfl) (by kernel_rfl) (by kernel_rfl) (fun _ _ _ h => h) (Or.inl ⟨by rfl, ?_⟩) (by assumption) ?_
      rotate_left 1
      · (intro wy hSw; (try dsimp only at hSw); go_simp; try with_reducible rfl)
      (try simp only [Act.put, List.setIfInBounds_toArray, List.set_cons_zero, List.set_cons_succ])
      refine wpAnyH_take (i := 2) (oi := _) (v := ?_) rfl (by kernel_rfl) (by kernel_rfl) (by kernel_rfl) (fun _ _ _ h => h) (Or.inl ⟨by rfl, ?_⟩) (by assumption) ?_
      rotate_left 1
      · (intro wy hSw; (try dsimp only at hSw); go_simp; try with_reducible rfl)
      (try simp only [Act.put, List.setIfInBounds_toArray, List.set_cons_zero, List.set_cons_succ])
      refine wpAnyH_take (i := 4) (oi := _) (v := ?_) rfl (by kernel_rfl) (by kernel_rfl) (by kernel_rfl) (fun _ _ _ h => h) (Or.inl ⟨by rfl, ?_⟩) (by assumption) ?_
      rotate_left 1
      · (intro wy hSw; (try dsimp only at hSw); go_simp; try with_reducible rfl)
      (try simp only [Act.put, List.setIfInBounds_toArray, List.set_cons_zero, List.set_cons_succ])
      refine wpAnyH_take (i := 6) (oi := _) (v := ?_) rfl (by kernel_rfl) (by kernel_rfl) (by kernel_rfl) (fun _ _ _ h => h) (Or.inl ⟨by rfl, ?_⟩) (by assumption) ?_
      rotate_left 1
      · (intro wy hSw; (try dsimp only at hSw); go_simp; try with_reducible rfl)
      (try simp only [Act.put, List.setIfInBounds_toArray, List.set_cons_zero, List.set_cons_succ])
      refine wpAnyH_ready (rs := [1, 3]) (by kernel_rfl) (by simp) ?_
      refine AllReadyH.cons (o := _) rfl (fun K9 hK9 => ?_) (AllReadyH.cons (o := _) rfl (fun K9 hK9 => ?_) AllReadyH.nil)
      · skip
        go_simp
        refine hK9.out _ _ (by trivial) (fun hHeld => ?_)
        clear hK9 K9
        (try simp only [Act.put, List.setIfInBounds_toArray, List.set_cons_zero, List.set_cons_succ])
        refine wpAnyH_ready (rs := [3]) (by kernel_rfl) (by simp) ?_
        refine AllReadyH.cons (o := _) rfl (fun K9 hK9 => ?_) AllReadyH.nil
        go_simp
        refine (HU _ Rr.drew).mono ?_
        intro r wu hu
        obtain ⟨rfl, Ru, onu⟩ := hu
        have hlu := onu.boxed hlr hne
        have BLu := boxed hlu
        (try dsimp only)
        refine hK9.out _ _ (by trivial) (fun hHeld => ?_)
        clear hK9 K9
        (try simp only [Act.put, List.setIfInBounds_toArray, List.set_cons_zero, List.set_cons_succ])
        refine wpAnyH_ready (rs := [5]) (by kernel_rfl) (by simp) ?_
        refine AllReadyH.cons (o := _) rfl (fun K9 hK9 => ?_) AllReadyH.nil
        go_simp
        refine (HI _ Ru).mono ?_
        intro r wi hi
        obtain ⟨rfl, Ri, oni⟩ := hi
        have hli := oni.boxed hlu hne
        have BLi := boxed hli
        (try dsimp only)
        refine hK9.out _ _ (by trivial) (fun hHeld => ?_)
        clear hK9 K9
        (try simp only [Act.put, List.setIfInBounds_toArray, List.set_cons_zero, List.set_cons_succ])
        refine wpAnyH_ready (rs := [7]) (by kernel_rfl) (by simp) ?_
        refine AllReadyH.cons (o := _) rfl (fun K9 hK9 => ?_) AllReadyH.nil
        go_simp
        refine (HB _ Ri).mono ?_
        intro r wv hv
        obtain ⟨rfl, Rv, onv⟩ := hv
        have hlv := onv.boxed hli hne
        have BLv := boxed hlv
        (try dsimp only)
        refine hK9.out _ _ (by trivial) (fun hHeld => ?_)
        clear hK9 K9
        (try simp only [Act.put, List.setIfInBounds_toArray, List.set_cons_zero, List.set_cons_succ])
        refine wpAnyH_take (i := 8) (oi := _) (v := ?_) rfl (by kernel_rfl) (by kernel_rfl) (by kernel_rfl) (fun _ _ _ h => h) (Or.inl ⟨by rfl, ?_⟩) (by assumption) ?_
        rotate_left 1
        · (intro wy hSw; (try dsimp only at hSw); go_simp; try with_reducible rfl)
        (try simp only [Act.put, List.setIfInBounds_toArray, List.set_cons_zero, List.set_cons_succ])
        refine wpAnyH_ready (rs := [9]) (by kernel_rfl) (by simp) ?_
        refine AllReadyH.cons (o := _) rfl (fun K9 hK9 => ?_) AllReadyH.nil
        go_simp
        refine hK9.out _ _ (by trivial) (fun hHeld => ?_)
        clear hK9 K9
        (try simp only [Act.put, List.setIfInBounds_toArray, List.set_cons_zero, List.set_cons_succ])
        refine wpAnyH_ready (rs := [10]) (by kernel_rfl) (by simp) ?_
        refine AllReadyH.cons (o := _) rfl (fun K9 hK9 => ?_) AllReadyH.nil
        have onw : Only (fun k => k = g) wr.drew wv := (onu.trans oni).trans onv
        have hzb : w7.heap.size ≤ wv.heap.size := Nat.le_trans hzr onw.size
        have hov := onw.own (hown.later _) hno
        refine step_app (P := Try.prog) rfl (.tmp 21) (.tmp 29) (by rfl) ListedE.enc listedT _ _ [⟨nu, unzig ni, vb⟩] es (.slice A es.length c) (by rfl) (by rfl) (m := 1) (n := es.length + 1) rfl rfl (hov.later _) (blk_slAt ListedE.enc (fr := (0, 0)) (e := 64) (heap_alloc_new _ _) [⟨nu, unzig ni, vb⟩] rfl) (by omega) (by unfold maxLen; omega) (by simp; omega) ?_
        intro A9 c9 w9 ho9 hm9 hb9 hg9
        have on9 : Only (fun k => (Value.slice A es.length c).ownBlock = some k) wv w9 := (Only.of_below (w' := wv.alloc _) ((Below.refl _ _).alloc (Nat.le_refl _) _)).trans (Only.of_grown hg9)
        have hl9 := on9.boxed hlv (fun e => hno2 _ e rfl)
        have R9 := Rv.only on9 (fun k hk => ⟨by have := (World.ownsRow.lt hown _ hk).1; omega, hno _ hk⟩)
        have BL9 := boxed hl9
        refine hK9.out _ _ (by trivial) (fun hHeld => ?_)
        clear hK9 K9
        (try simp only [Act.put, List.setIfInBounds_toArray, List.set_cons_zero, List.set_cons_succ])
        refine wpAnyH_take (i := 11) (oi := _) (v := ?_) rfl (by kernel_rfl) (by kernel_rfl) (by kernel_rfl) (fun _ _ _ h => h) (Or.inl ⟨by rfl, ?_⟩) (by assumption) ?_
        rotate_left 1
        · (intro wy hSw; (try dsimp only at hSw); go_simp; try with_reducible rfl)
        (try simp only [Act.put, List.setIfInBounds_toArray, List.set_cons_zero, List.set_cons_succ])
        refine wpAnyH_ready (rs := [12]) (by kernel_rfl) (by simp) ?_
        refine AllReadyH.cons (o := _) rfl (fun K9 hK9 => ?_) AllReadyH.nil
        go_simp
        refine hK9.out _ _ (by trivial) (fun hHeld => ?_)
        clear hK9 K9
        (try simp only [Act.put, List.setIfInBounds_toArray, List.set_cons_zero, List.set_cons_succ])
        refine wpAnyH_done (by kernel_rfl) ?_ _
        go_wp2_with fail
        go_roundw
        case rel =>
          have ona : Only (fun k => k = g ∨ k = w5.heap.size ∨ (Value.slice A es.length c).ownBlock = some k) wr (w9.setCell ⟨w5.heap.size, 3, none⟩ (.slice A9 (es.length + 1) c9)) :=
            Only.setCell (((Only.of_below (w' := wr.drew) ((Below.refl _ _).drew)).trans (onw.mono fun k _ h => .inl h)).trans (on9.mono fun k _ h => .inr (.inr h))) (.inl (.inr (.inl rfl))) _
          refine ⟨k + 1, A9, c9, es ++ [⟨nu, unzig ni, vb⟩], sb, by omega, by go_num, by unfold rdEs; rw [Hes.out]; simp only [hE.out], ?_, ?_, ?_, ?_⟩
          · exact R9.only (Only.setCell (s := fun k => k = w5.heap.size) Only.refl (.inl rfl) _) (fun k hk => ⟨by omega, by omega⟩)
          · rw [List.length_append]
            exact ho9.far (p := ⟨w5.heap.size, 3, none⟩) (fun e => absurd (World.ownsRow.lt ho9 _ e).1 (by first | (simp; done) | (simp; omega) | omega)) _
          · rw [List.length_append]
            exact (blk_set hl9 3 _).trans (by simp)
          · exact honr.trans' ona (fun k hk h => by
              rcases h with h | h | h
              · exact .inl h
              · exact .inr h
              · have := (World.ownsRow.lt hown _ h).1; omega)
        case measure => simp [intOf]; omega
      · skip
        go_simp
        refine (HU _ Rr.drew).mono ?_
        intro r wu hu
        obtain ⟨rfl, Ru, onu⟩ := hu
        have hlu := onu.boxed hlr hne
        have BLu := boxed hlu
        (try dsimp only)
        refine hK9.out _ _ (by trivial) (fun hHeld => ?_)
        clear hK9 K9
        (try simp only [Act.put, List.setIfInBounds_toArray, List.set_cons_zero, List.set_cons_succ])
        refine wpAnyH_ready (rs := [1, 5]) (by kernel_rfl) (by simp) ?_
        refine AllReadyH.cons (o := _) rfl (fun K9 hK9 => ?_) (AllReadyH.cons (o := _) rfl (fun K9 hK9 => ?_) AllReadyH.nil)
        · skip
          go_simp
          refine hK9.out _ _ (by trivial) (fun hHeld => ?_)
          clear hK9 K9
          (try simp only [Act.put, List.setIfInBounds_toArray, List.set_cons_zero, List.set_cons_succ])
          refine wpAnyH_ready (rs := [5]) (by kernel_rfl) (by simp) ?_
          refine AllReadyH.cons (o := _) rfl (fun K9 hK9 => ?_) AllReadyH.nil
          go_simp
          refine (HI _ Ru).mono ?_
          intro r wi hi
          obtain ⟨rfl, Ri, oni⟩ := hi
          have hli := oni.boxed hlu hne
          have BLi := boxed hli
          (try dsimp only)
          refine hK9.out _ _ (by trivial) (fun hHeld => ?_)
          clear hK9 K9
          (try simp only [Act.put, List.setIfInBounds_toArray, List.set_cons_zero, List.set_cons_succ])
          refine wpAnyH_ready (rs := [7]) (by kernel_rfl) (by simp) ?_
          refine AllReadyH.cons (o := _) rfl (fun K9 hK9 => ?_) AllReadyH.nil
          go_simp
          refine (HB _ Ri).mono ?_
          intro r wv hv
          obtain ⟨rfl, Rv, onv⟩ := hv
          have hlv := onv.boxed hli hne
          have BLv := boxed hlv
          (try dsimp only)
          refine hK9.out _ _ (by trivial) (fun hHeld => ?_)
          clear hK9 K9
          (try simp only [Act.put, List.setIfInBounds_toArray, List.set_cons_zero, List.set_cons_succ])
          refine wpAnyH_take (i := 8) (oi := _) (v := ?_) rfl (by kernel_rfl) (by kernel_rfl) (by kernel_rfl) (fun _ _ _ h => h) (Or.inl ⟨by rfl, ?_⟩) (by assumption) ?_
          rotate_left 1
          · (intro wy hSw; (try dsimp only at hSw); go_simp; try with_reducible rfl)
          (try simp only [Act.put, List.setIfInBounds_toArray, List.set_cons_zero, List.set_cons_succ])
          refine wpAnyH_ready (rs := [9]) (by kernel_rfl) (by simp) ?_
          refine AllReadyH.cons (o := _) rfl (fun K9 hK9 => ?_) AllReadyH.nil
          go_simp
          refine hK9.out _ _ (by trivial) (fun hHeld => ?_)
          clear hK9 K9
          (try simp only [Act.put, List.setIfInBounds_toArray, List.set_cons_zero, List.set_cons_succ])
          refine wpAnyH_ready (rs := [10]) (by kernel_rfl) (by simp) ?_
          refine AllReadyH.cons (o := _) rfl (fun K9 hK9 => ?_) AllReadyH.nil
          have onw : Only (fun k => k = g) wr.drew wv := (onu.trans oni).trans onv
          have hzb : w7.heap.size ≤ wv.heap.size := Nat.le_trans hzr onw.size
          have hov := onw.own (hown.later _) hno
          refine step_app (P := Try.prog) rfl (.tmp 21) (.tmp 29) (by rfl) ListedE.enc listedT _ _ [⟨nu, unzig ni, vb⟩] es (.slice A es.length c) (by rfl) (by rfl) (m := 1) (n := es.length + 1) rfl rfl (hov.later _) (blk_slAt ListedE.enc (fr := (0, 0)) (e := 64) (heap_alloc_new _ _) [⟨nu, unzig ni, vb⟩] rfl) (by omega) (by unfold maxLen; omega) (by simp; omega) ?_
          intro A9 c9 w9 ho9 hm9 hb9 hg9
          have on9 : Only (fun k => (Value.slice A es.length c).ownBlock = some k) wv w9 := (Only.of_below (w' := wv.alloc _) ((Below.refl _ _).alloc (Nat.le_refl _) _)).trans (Only.of_grown hg9)
          have hl9 := on9.boxed hlv (fun e => hno2 _ e rfl)
          have R9 := Rv.only on9 (fun k hk => ⟨by have := (World.ownsRow.lt hown _ hk).1; omega, hno _ hk⟩)
          have BL9 := boxed hl9
          refine hK9.out _ _ (by trivial) (fun hHeld => ?_)
          clear hK9 K9
          (try simp only [Act.put, List.setIfInBounds_toArray, List.set_cons_zero, List.set_cons_succ])
          refine wpAnyH_take (i := 11) (oi := _) (v := ?_) rfl (by kernel_rfl) (by kernel_rfl) (by kernel_rfl) (fun _ _ _ h => h) (Or.inl ⟨by rfl, ?_⟩) (by assumption) ?_
          rotate_left 1
          · (intro wy hSw; (try dsimp only at hSw); go_simp; try with_reducible rfl)
          (try simp only [Act.put, List.setIfInBounds_toArray, List.set_cons_zero, List.set_cons_succ])
          refine wpAnyH_ready (rs := [12]) (by kernel_rfl) (by simp) ?_
          refine AllReadyH.cons (o := _) rfl (fun K9 hK9 => ?_) AllReadyH.nil
          go_simp
          refine hK9.out _ _ (by trivial) (fun hHeld => ?_)
          clear hK9 K9
          (try simp only [Act.put, List.setIfInBounds_toArray, List.set_cons_zero, List.set_cons_succ])
          refine wpAnyH_done (by kernel_rfl) ?_ _
          go_wp2_with fail
          go_roundw
          case rel =>
            have ona : Only (fun k => k = g ∨ k = w5.heap.size ∨ (Value.slice A es.length c).ownBlock = some k) wr (w9.setCell ⟨w5.heap.size, 3, none⟩ (.slice A9 (es.length + 1) c9)) :=
              Only.setCell (((Only.of_below (w' := wr.drew) ((Below.refl _ _).drew)).trans (onw.mono fun k _ h => .inl h)).trans (on9.mono fun k _ h => .inr (.inr h))) (.inl (.inr (.inl rfl))) _
            refine ⟨k + 1, A9, c9, es ++ [⟨nu, unzig ni, vb⟩], sb, by omega, by go_num, by unfold rdEs; rw [Hes.out]; simp only [hE.out], ?_, ?_, ?_, ?_⟩
            · exact R9.only (Only.setCell (s := fun k => k = w5.heap.size) Only.refl (.inl rfl) _) (fun k hk => ⟨by omega, by omega⟩)
            · rw [List.length_append]
              exact ho9.far (p := ⟨w5.heap.size, 3, none⟩) (fun e => absurd (World.ownsRow.lt ho9 _ e).1 (by first | (simp; done) | (simp; omega) | omega)) _
            · rw [List.length_append]
              exact (blk_set hl9 3 _).trans (by simp)
            · exact honr.trans' ona (fun k hk h => by
                rcases h with h | h | h
                · exact .inl h
                · exact .inr h
                · have := (World.ownsRow.lt hown _ h).1; omega)
          case measure => simp [intOf]; omega
        · skip
          go_simp
          refine (HI _ Ru).mono ?_
          intro r wi hi
          obtain ⟨rfl, Ri, oni⟩ := hi
          have hli := oni.boxed hlu hne
          have BLi := boxed hli
          (try dsimp only)
          refine hK9.out _ _ (by trivial) (fun hHeld => ?_)
          clear hK9 K9
          (try simp only [Act.put, List.setIfInBounds_toArray, List.set_cons_zero, List.set_cons_succ])
          refine wpAnyH_ready (rs := [1, 7]) (by kernel_rfl) (by simp) ?_
          refine AllReadyH.cons (o := _) rfl (fun K9 hK9 => ?_) (AllReadyH.cons (o := _) rfl (fun K9 hK9 => ?_) AllReadyH.nil)
          · skip
            go_simp
            refine hK9.out _ _ (by trivial) (fun hHeld => ?_)
            clear hK9 K9
            (try simp only [Act.put, List.setIfInBounds_toArray, List.set_cons_zero, List.set_cons_succ])
            refine wpAnyH_ready (rs := [7]) (by kernel_rfl) (by simp) ?_
            refine AllReadyH.cons (o := _) rfl (fun K9 hK9 => ?_) AllReadyH.nil
            go_simp
            refine (HB _ Ri).mono ?_
            intro r wv hv
            obtain ⟨rfl, Rv, onv⟩ := hv
            have hlv := onv.boxed hli hne
            have BLv := boxed hlv
            (try dsimp only)
            refine hK9.out _ _ (by trivial) (fun hHeld => ?_)
            clear hK9 K9
            (try simp only [Act.put, List.setIfInBounds_toArray, List.set_cons_zero, List.set_cons_succ])
            refine wpAnyH_take (i := 8) (oi := _) (v := ?_) rfl (by kernel_rfl) (by kernel_rfl) (by kernel_rfl) (fun _ _ _ h => h) (Or.inl ⟨by rfl, ?_⟩) (by assumption) ?_
            rotate_left 1
            · (intro wy hSw; (try dsimp only at hSw); go_simp; try with_reducible rfl)
            (try simp only [Act.put, List.setIfInBounds_toArray, List.set_cons_zero, List.set_cons_succ])
            refine wpAnyH_ready (rs := [9]) (by kernel_rfl) (by simp) ?_
            refine AllReadyH.cons (o := _) rfl (fun K9 hK9 => ?_) AllReadyH.nil
            go_simp
            refine hK9.out _ _ (by trivial) (fun hHeld => ?_)
            clear hK9 K9
            (try simp only [Act.put, List.setIfInBounds_toArray, List.set_cons_zero, List.set_cons_succ])
            refine wpAnyH_ready (rs := [10]) (by kernel_rfl) (by simp) ?_
            refine AllReadyH.cons (o := _) rfl (fun K9 hK9 => ?_) AllReadyH.nil
            have onw : Only (fun k => k = g) wr.drew wv := (onu.trans oni).trans onv
            have hzb : w7.heap.size ≤ wv.heap.size := Nat.le_trans hzr onw.size
            have hov := onw.own (hown.later _) hno
            refine step_app (P := Try.prog) rfl (.tmp 21) (.tmp 29) (by rfl) ListedE.enc listedT _ _ [⟨nu, unzig ni, vb⟩] es (.slice A es.length c) (by rfl) (by rfl) (m := 1) (n := es.length + 1) rfl rfl (hov.later _) (blk_slAt ListedE.enc (fr := (0, 0)) (e := 64) (heap_alloc_new _ _) [⟨nu, unzig ni, vb⟩] rfl) (by omega) (by unfold maxLen; omega) (by simp; omega) ?_
            intro A9 c9 w9 ho9 hm9 hb9 hg9
            have on9 : Only (fun k => (Value.slice A es.length c).ownBlock = some k) wv w9 := (Only.of_below (w' := wv.alloc _) ((Below.refl _ _).alloc (Nat.le_refl _) _)).trans (Only.of_grown hg9)
            have hl9 := on9.boxed hlv (fun e => hno2 _ e rfl)
            have R9 := Rv.only on9 (fun k hk => ⟨by have := (World.ownsRow.lt hown _ hk).1; omega, hno _ hk⟩)
            have BL9 := boxed hl9
            refine hK9.out _ _ (by trivial) (fun hHeld => ?_)
            clear hK9 K9
            (try simp only [Act.put, List.setIfInBounds_toArray, List.set_cons_zero, List.set_cons_succ])
            refine wpAnyH_take (i := 11) (oi := _) (v := ?_) rfl (by kernel_rfl) (by kernel_rfl) (by kernel_rfl) (fun _ _ _ h => h) (Or.inl ⟨by rfl, ?_⟩) (by assumption) ?_
            rotate_left 1
            · (intro wy hSw; (try dsimp only at hSw); go_simp; try with_reducible rfl)
            (try simp only [Act.put, List.setIfInBounds_toArray, List.set_cons_zero, List.set_cons_succ])
            refine wpAnyH_ready (rs := [12]) (by kernel_rfl) (by simp) ?_
            refine AllReadyH.cons (o := _) rfl (fun K9 hK9 => ?_) AllReadyH.nil
            go_simp
            refine hK9.out _ _ (by trivial) (fun hHeld => ?_)
            clear hK9 K9
            (try simp only [Act.put, List.setIfInBounds_toArray, List.set_cons_zero, List.set_cons_succ])
            refine wpAnyH_done (by kernel_rfl) ?_ _
            go_wp2_with fail
            go_roundw
            case rel =>
              have ona : Only (fun k => k = g ∨ k = w5.heap.size ∨ (Value.slice A es.length c).ownBlock = some k) wr (w9.setCell ⟨w5.heap.size, 3, none⟩ (.slice A9 (es.length + 1) c9)) :=
                Only.setCell (((Only.of_below (w' := wr.drew) ((Below.refl _ _).drew)).trans (onw.mono fun k _ h => .inl h)).trans (on9.mono fun k _ h => .inr (.inr h))) (.inl (.inr (.inl rfl))) _
              refine ⟨k + 1, A9, c9, es ++ [⟨nu, unzig ni, vb⟩], sb, by omega, by go_num, by unfold rdEs; rw [Hes.out]; simp only [hE.out], ?_, ?_, ?_, ?_⟩
              · exact R9.only (Only.setCell (s := fun k => k = w5.heap.size) Only.refl (.inl rfl) _) (fun k hk => ⟨by omega, by omega⟩)
              · rw [List.length_append]
                exact ho9.far (p := ⟨w5.heap.size, 3, none⟩) (fun e => absurd (World.ownsRow.lt ho9 _ e).1 (by first | (simp; done) | (simp; omega) | omega)) _
              · rw [List.length_append]
                exact (blk_set hl9 3 _).trans (by simp)
              · exact honr.trans' ona (fun k hk h => by
                  rcases h with h | h | h
                  · exact .inl h
                  · exact .inr h
                  · have := (World.ownsRow.lt hown _ h).1; omega)
            case measure => simp [intOf]; omega
          · skip
            go_simp
            refine (HB _ Ri).mono ?_
            intro r wv hv
            obtain ⟨rfl, Rv, onv⟩ := hv
            have hlv := onv.boxed hli hne
            have BLv := boxed hlv
            (try dsimp only)
            refine hK9.out _ _ (by trivial) (fun hHeld => ?_)
            clear hK9 K9
            (try simp only [Act.put, List.setIfInBounds_toArray, List.set_cons_zero, List.set_cons_succ])
            refine wpAnyH_take (i := 8) (oi := _) (v := ?_) rfl (by kernel_rfl) (by kernel_rfl) (by kernel_rfl) (fun _ _ _ h => h) (Or.inl ⟨by rfl, ?_⟩) (by assumption) ?_
            rotate_left 1
            · (intro wy hSw; (try dsimp only at hSw); go_simp; try with_reducible rfl)
            (try simp only [Act.put, List.setIfInBounds_toArray, List.set_cons_zero, List.set_cons_succ])
            refine wpAnyH_ready (rs := [1, 9]) (by kernel_rfl) (by simp) ?_
            refine AllReadyH.cons (o := _) rfl (fun K9 hK9 => ?_) (AllReadyH.cons (o := _) rfl (fun K9 hK9 => ?_) AllReadyH.nil)
            · skip
              go_simp
              refine hK9.out _ _ (by trivial) (fun hHeld => ?_)
              clear hK9 K9
              (try simp only [Act.put, List.setIfInBounds_toArray, List.set_cons_zero, List.set_cons_succ])
              refine wpAnyH_ready (rs := [9]) (by kernel_rfl) (by simp) ?_
              refine AllReadyH.cons (o := _) rfl (fun K9 hK9 => ?_) AllReadyH.nil
              go_simp
              refine hK9.out _ _ (by trivial) (fun hHeld => ?_)
              clear hK9 K9
              (try simp only [Act.put, List.setIfInBounds_toArray, List.set_cons_zero, List.set_cons_succ])
              refine wpAnyH_ready (rs := [10]) (by kernel_rfl) (by simp) ?_
              refine AllReadyH.cons (o := _) rfl (fun K9 hK9 => ?_) AllReadyH.nil
              have onw : Only (fun k => k = g) wr.drew wv := (onu.trans oni).trans onv
              have hzb : w7.heap.size ≤ wv.heap.size := Nat.le_trans hzr onw.size
              have hov := onw.own (hown.later _) hno
              refine step_app (P := Try.prog) rfl (.tmp 21) (.tmp 29) (by rfl) ListedE.enc listedT _ _ [⟨nu, unzig ni, vb⟩] es (.slice A es.length c) (by rfl) (by rfl) (m := 1) (n := es.length + 1) rfl rfl (hov.later _) (blk_slAt ListedE.enc (fr := (0, 0)) (e := 64) (heap_alloc_new _ _) [⟨nu, unzig ni, vb⟩] rfl) (by omega) (by unfold maxLen; omega) (by simp; omega) ?_
              intro A9 c9 w9 ho9 hm9 hb9 hg9
              have on9 : Only (fun k => (Value.slice A es.length c).ownBlock = some k) wv w9 := (Only.of_below (w' := wv.alloc _) ((Below.refl _ _).alloc (Nat.le_refl _) _)).trans (Only.of_grown hg9)
              have hl9 := on9.boxed hlv (fun e => hno2 _ e rfl)
              have R9 := Rv.only on9 (fun k hk => ⟨by have := (World.ownsRow.lt hown _ hk).1; omega, hno _ hk⟩)
              have BL9 := boxed hl9
              refine hK9.out _ _ (by trivial) (fun hHeld => ?_)
              clear hK9 K9
              (try simp only [Act.put, List.setIfInBounds_toArray, List.set_cons_zero, List.set_cons_succ])
              refine wpAnyH_take (i := 11) (oi := _) (v := ?_) rfl (by kernel_rfl) (by kernel_rfl) (by kernel_rfl) (fun _ _ _ h => h) (Or.inl ⟨by rfl, ?_⟩) (by assumption) ?_
              rotate_left 1
              · (intro wy hSw; (try dsimp only at hSw); go_simp; try with_reducible rfl)
              (try simp only [Act.put, List.setIfInBounds_toArray, List.set_cons_zero, List.set_cons_succ])
              refine wpAnyH_ready (rs := [12]) (by kernel_rfl) (by simp) ?_
              refine AllReadyH.cons (o := _) rfl (fun K9 hK9 => ?_) AllReadyH.nil
              go_simp
              refine hK9.out _ _ (by trivial) (fun hHeld => ?_)
              clear hK9 K9
              (try simp only [Act.put, List.setIfInBounds_toArray, List.set_cons_zero, List.set_cons_succ])
              refine wpAnyH_done (by kernel_rfl) ?_ _
              go_wp2_with fail
              go_roundw
              case rel =>
                have ona : Only (fun k => k = g ∨ k = w5.heap.size ∨ (Value.slice A es.length c).ownBlock = some k) wr (w9.setCell ⟨w5.heap.size, 3, none⟩ (.slice A9 (es.length + 1) c9)) :=
                  Only.setCell (((Only.of_below (w' := wr.drew) ((Below.refl _ _).drew)).trans (onw.mono fun k _ h => .inl h)).trans (on9.mono fun k _ h => .inr (.inr h))) (.inl (.inr (.inl rfl))) _
                refine ⟨k + 1, A9, c9, es ++ [⟨nu, unzig ni, vb⟩], sb, by omega, by go_num, by unfold rdEs; rw [Hes.out]; simp only [hE.out], ?_, ?_, ?_, ?_⟩
                · exact R9.only (Only.setCell (s := fun k => k = w5.heap.size) Only.refl (.inl rfl) _) (fun k hk => ⟨by omega, by omega⟩)
                · rw [List.length_append]
                  exact ho9.far (p := ⟨w5.heap.size, 3, none⟩) (fun e => absurd (World.ownsRow.lt ho9 _ e).1 (by first | (simp; done) | (simp; omega) | omega)) _
                · rw [List.length_append]
                  exact (blk_set hl9 3 _).trans (by simp)
                · exact honr.trans' ona (fun k hk h => by
                    rcases h with h | h | h
                    · exact .inl h
                    · exact .inr h
                    · have := (World.ownsRow.lt hown _ h).1; omega)
              case measure => simp [intOf]; omega
            · skip
              go_simp
              refine hK9.out _ _ (by trivial) (fun hHeld => ?_)
              clear hK9 K9
              (try simp only [Act.put, List.setIfInBounds_toArray, List.set_cons_zero, List.set_cons_succ])
              refine wpAnyH_ready (rs := [1]) (by kernel_rfl) (by simp) ?_
              refine AllReadyH.cons (o := _) rfl (fun K9 hK9 => ?_) AllReadyH.nil
              go_simp
              refine hK9.out _ _ (by trivial) (fun hHeld => ?_)
              clear hK9 K9
              (try simp only [Act.put, List.setIfInBounds_toArray, List.set_cons_zero, List.set_cons_succ])
              refine wpAnyH_ready (rs := [10]) (by kernel_rfl) (by simp) ?_
              refine AllReadyH.cons (o := _) rfl (fun K9 hK9 => ?_) AllReadyH.nil
              have onw : Only (fun k => k = g) wr.drew wv := (onu.trans oni).trans onv
              have hzb : w7.heap.size ≤ wv.heap.size := Nat.le_trans hzr onw.size
              have hov := onw.own (hown.later _) hno
              refine step_app (P := Try.prog) rfl (.tmp 21) (.tmp 29) (by rfl) ListedE.enc listedT _ _ [⟨nu, unzig ni, vb⟩] es (.slice A es.length c) (by rfl) (by rfl) (m := 1) (n := es.length + 1) rfl rfl (hov.later _) (blk_slAt ListedE.enc (fr := (0, 0)) (e := 64) (heap_alloc_new _ _) [⟨nu, unzig ni, vb⟩] rfl) (by omega) (by unfold maxLen; omega) (by simp; omega) ?_
              intro A9 c9 w9 ho9 hm9 hb9 hg9
              have on9 : Only (fun k => (Value.slice A es.length c).ownBlock = some k) wv w9 := (Only.of_below (w' := wv.alloc _) ((Below.refl _ _).alloc (Nat.le_refl _) _)).trans (Only.of_grown hg9)
              have hl9 := on9.boxed hlv (fun e => hno2 _ e rfl)
              have R9 := Rv.only on9 (fun k hk => ⟨by have := (World.ownsRow.lt hown _ hk).1; omega, hno _ hk⟩)
              have BL9 := boxed hl9
              refine hK9.out _ _ (by trivial) (fun hHeld => ?_)
              clear hK9 K9
              (try simp only [Act.put, List.setIfInBounds_toArray, List.set_cons_zero, List.set_cons_succ])
              refine wpAnyH_take (i := 11) (oi := _) (v := ?_) rfl (by kernel_rfl) (by kernel_rfl) (by kernel_rfl) (fun _ _ _ h => h) (Or.inl ⟨by rfl, ?_⟩) (by assumption) ?_
              rotate_left 1
              · (intro wy hSw; (try dsimp only at hSw); go_simp; try with_reducible rfl)
              (try simp only [Act.put, List.setIfInBounds_toArray, List.set_cons_zero, List.set_cons_succ])
              refine wpAnyH_ready (rs := [12]) (by kernel_rfl) (by simp) ?_
              refine AllReadyH.cons (o := _) rfl (fun K9 hK9 => ?_) AllReadyH.nil
              go_simp
              refine hK9.out _ _ (by trivial) (fun hHeld => ?_)
              clear hK9 K9
              (try simp only [Act.put, List.setIfInBounds_toArray, List.set_cons_zero, List.set_cons_succ])
              refine wpAnyH_done (by kernel_rfl) ?_ _
              go_wp2_with fail
              go_roundw
              case rel =>
                have ona : Only (fun k => k = g ∨ k = w5.heap.size ∨ (Value.slice A es.length c).ownBlock = some k) wr (w9.setCell ⟨w5.heap.size, 3, none⟩ (.slice A9 (es.length + 1) c9)) :=
                  Only.setCell (((Only.of_below (w' := wr.drew) ((Below.refl _ _).drew)).trans (onw.mono fun k _ h => .inl h)).trans (on9.mono fun k _ h => .inr (.inr h))) (.inl (.inr (.inl rfl))) _
                refine ⟨k + 1, A9, c9, es ++ [⟨nu, unzig ni, vb⟩], sb, by omega, by go_num, by unfold rdEs; rw [Hes.out]; simp only [hE.out], ?_, ?_, ?_, ?_⟩
                · exact R9.only (Only.setCell (s := fun k => k = w5.heap.size) Only.refl (.inl rfl) _) (fun k hk => ⟨by omega, by omega⟩)
                · rw [List.length_append]
                  exact ho9.far (p := ⟨w5.heap.size, 3, none⟩) (fun e => absurd (World.ownsRow.lt ho9 _ e).1 (by first | (simp; done) | (simp; omega) | omega)) _
                · rw [List.length_append]
                  exact (blk_set hl9 3 _).trans (by simp)
                · exact honr.trans' ona (fun k hk h => by
                    rcases h with h | h | h
                    · exact .inl h
                    · exact .inr h
                    · have := (World.ownsRow.lt hown _ h).1; omega)
              case measure => simp [intOf]; omega
    · have hk' : k = n := by omega
      subst hk'
      have hE := hide (show rdL b = (es, st) by rw [hL.out, hes])
      clear hes
      go_wp2_with (go_at_call 53; refine (show Calls _ _ _ _ (fun r w' => r = .returned (.int .i64 (endE st)) ∧ Below wr.heap.size wr w') from done_any wb g st wr Rr).mono ?_)
      rintro r wd ⟨rfl, hbd⟩
      have ld := later hbd
      have hs5 := blk_lt h5
      have onA : Only (fun k => w.heap.size ≤ k) w wd := ((((((Only.of_below hbel1).trans (Only.of_below hb2)).trans (on25.mono fun k _ e => by omega)).trans (Only.of_below hbel6)).trans (on7.mono fun k _ e => by omega)).trans (honr.mono fun k _ e => by omega)).trans (Only.of_below hbd)
      have hbw : Below w.heap.size w wd := onA.below (fun k h => h) (Nat.le_refl _)
      have h7d := (hbd.block _ (blk_lt (honr.boxed h7 (by omega)))).trans (honr.boxed h7 (by omega))
      have C0 := boxed h7d
      have BLd := boxed ((hbd.block _ (blk_lt hlr)).trans hlr)
      have hod := hown.below hbd
      have hg0 : (Value.slice A es.length c).ownBlock ≠ some w.heap.size := fun e => absurd (World.ownsRow.lt hod _ e).1 (by omega)
      have hsl : es.length ≤ 1024 := by rw [hlen.out]; omega
      have r0 := blk_cell (C0 wd).1 0
      have r1 := blk_cell (C0 wd).1 1
      have r2 := blk_cell (C0 wd).1 2
      have r3 := blk_cell (C0 wd).1 3
      simp at r0 r1 r2 r3
      have hlen' := hide hlen.out
      clear BL
      by_cases he : endE st = 0
      rotate_left
      · have he' : (endE st != 0) = true := by simp [he]
        have hD := hide (show decL b = ((0, 0, 0), [], endE st) by unfold decL; rw [hE.out, if_neg he])
        go_wp2_with fail
        refine bodyPost_ret (v := .tuple #[.agg #[.int .i64 0, .int .i64 0, .int .i64 0, .slice none 0 0], .int .i64 (endE st)]) (by simp [results, Try.results29, go_sem, r0, r1, r2, r3]) rfl ⟨0, 0, 0, [], endE st, none, 0, hD, rfl, Own.nil, ?_⟩
        exact (by repeat (first | with_reducible exact hbw | with_reducible exact Below.refl _ _ | (with_reducible refine Below.drew ?_) | (with_reducible refine below_drewN ?_ _) | (with_reducible refine Below.alloc ?_ ?_ _; rotate_left; (first | omega | (simp <;> omega))) | (with_reducible refine Below.setCell ?_ ?_ _; rotate_left; (first | omega | (simp <;> omega)))))
      · have HV := valid_any ⟨R, S, C, A, c, es⟩ wd ⟨(hod.at_ ListedE.enc).2.2, by simp only; omega⟩
        obtain ⟨vv, hvv⟩ : ∃ vv, validB ⟨R, S, C, A, c, es⟩ = vv := ⟨_, rfl⟩
        rw [hvv] at HV
        have hvv' := hide hvv
        have hH1 := hide (show (rdH b).1 = (R, S, C) by rw [hH.out])
        rw [he]
        cases vv
        · have hD := hide (show decL b = ((0, 0, 0), [], 11) by
            unfold decL; rw [hE.out, if_pos he, hH1.out]
            have : (headB R S C es.length && okB es) = false := hvv'.out
            simp only [this]; rfl)
          clear hvv he
          go_wp2_with (go_at_call 15; refine HV.mono ?_)
          rintro r we ⟨rfl, hbe⟩
          have hbw2 : Below w.heap.size w we := hbw.trans (hbe.mono hbw.size)
          have q0 := blk_cell ((hbe.block _ (blk_lt h7d)).trans h7d) 0
          have q1 := blk_cell ((hbe.block _ (blk_lt h7d)).trans h7d) 1
          have q2 := blk_cell ((hbe.block _ (blk_lt h7d)).trans h7d) 2
          have q3 := blk_cell ((hbe.block _ (blk_lt h7d)).trans h7d) 3
          simp at q0 q1 q2 q3
          have C1 := boxed ((hbe.block _ (blk_lt h7d)).trans h7d)
          go_wp2_with fail
          refine bodyPost_ret (v := .tuple #[.agg #[.int .i64 0, .int .i64 0, .int .i64 0, .slice none 0 0], .int .i64 11]) (by simp [results, Try.results29, go_sem, q0, q1, q2, q3]) rfl ⟨0, 0, 0, [], 11, none, 0, hD, rfl, Own.nil, ?_⟩
          exact (by repeat (first | with_reducible exact hbw2 | with_reducible exact Below.refl _ _ | (with_reducible refine Below.drew ?_) | (with_reducible refine below_drewN ?_ _) | (with_reducible refine Below.alloc ?_ ?_ _; rotate_left; (first | omega | (simp <;> omega))) | (with_reducible refine Below.setCell ?_ ?_ _; rotate_left; (first | omega | (simp <;> omega)))))
        · have hD := hide (show decL b = ((R, S, C), es, 0) by
            unfold decL; rw [hE.out, if_pos he, hH1.out]
            have : (headB R S C es.length && okB es) = true := hvv'.out
            simp only [this]; rfl)
          clear hvv he
          go_wp2_with (go_at_call 15; refine HV.mono ?_)
          rintro r we ⟨rfl, hbe⟩
          have hbw2 : Below w.heap.size w we := hbw.trans (hbe.mono hbw.size)
          have q0 := blk_cell ((hbe.block _ (blk_lt h7d)).trans h7d) 0
          have q1 := blk_cell ((hbe.block _ (blk_lt h7d)).trans h7d) 1
          have q2 := blk_cell ((hbe.block _ (blk_lt h7d)).trans h7d) 2
          have q3 := blk_cell ((hbe.block _ (blk_lt h7d)).trans h7d) 3
          simp at q0 q1 q2 q3
          have C1 := boxed ((hbe.block _ (blk_lt h7d)).trans h7d)
          have BLe := boxed ((hbe.block _ (blk_lt (BLd wd).1)).trans (BLd wd).1)
          have hoe := hod.below hbe
          go_wp2_with fail
          refine bodyPost_ret (v := .tuple #[.agg #[.int .i64 R, .int .i64 S, .int .i64 C, .slice A es.length c], .int .i64 0]) (by simp [results, Try.results29, go_sem, q0, q1, q2, q3]) rfl ⟨R, S, C, es, 0, A, c, hD, rfl, ?_, ?_⟩
          · exact Own.mono ((((hoe.far (p := ⟨w.heap.size, 0, none⟩) hg0 _).far (p := ⟨w.heap.size, 1, none⟩) hg0 _).far (p := ⟨w.heap.size, 2, none⟩) hg0 _).far (p := ⟨w.heap.size, 3, none⟩) hg0 _) (by omega)
          · exact (by repeat (first | with_reducible exact hbw2 | with_reducible exact Below.refl _ _ | (with_reducible refine Below.drew ?_) | (with_reducible refine below_drewN ?_ _) | (with_reducible refine Below.alloc ?_ ?_ _; rotate_left; (first | omega | (simp <;> omega))) | (with_reducible refine Below.setCell ?_ ?_ _; rotate_left; (first | omega | (simp <;> omega)))))
end Go.Proofs.Ythigjlllhnajbaa

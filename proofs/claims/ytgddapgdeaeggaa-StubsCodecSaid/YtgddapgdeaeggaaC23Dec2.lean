/-
  Contracts of the functions of this seat that each theorem names: what a call returns, and that it writes nothing that was there before. The conditions stand in each theorem.
-/
import Derived.Test.YtgddapgdeaeggaaC23Dec
namespace Go.Proofs.Ytgddapgdeaeggaa
open Go.RowKit
theorem Only.of_grown {w w' : World} {row : Nat} (hg : w.grownBy w' (some row)) : Only (fun k => k = row) w w' := by
  obtain ⟨a, b, c, d, e⟩ := hg
  exact ⟨a, b, c, d, fun k hk hn => e k hk (fun h => hn (by first | (injection h) | (injection h with h; exact h.symm)))⟩
theorem TabAt.only {w w' : World} {p g : Nat} {l : List StubE} {s : Nat → Prop} (h : TabAt w p g l) (ho : Only s w w') (hp : ¬ s p) (hg : ¬ s g) : TabAt w' p g l := h.of_heap (ho.block _ (blk_lt h.1) hp) (ho.block _ h.2.lt hg)
def DecPost (b : List Int) (w : World) (r : Ending) (w' : World) : Prop :=
  ((∃ p g l, r = .returned (.tuple #[.pointer (some ⟨p, 0, none⟩), .int .i64 0]) ∧ w.heap.size ≤ p ∧ w.heap.size ≤ g ∧ TabAt w' p g l ∧ Hid (Inv l ∧ (∀ e ∈ l, RngE e) ∧ l.length ≤ b.length ∧ (∃ st, decR b = some (l, st)) ∧ ∃ q : List StubE, q.Perm l ∧ SortedS q ∧ encS q = b)) ∨
    (r = .returned (.tuple #[.pointer none, .int .i64 11]) ∧ Hid (¬ decOk b))) ∧ Below w.heap.size w w'
theorem add_cases {l : List StubE} {e : StubE} (hi : Inv l) (h0 : addErr l e = 0) : addT l e = l ++ [e] := by
  obtain ⟨_, h2, _⟩ := addErr_ok h0
  unfold addT; rw [if_pos h0]
  exact putK_new (hasK_false h2)
set_option maxRecDepth 100000 in
set_option maxHeartbeats 8000000 in
theorem decode_any (bA : Option Addr) (bC : Nat) (b : List Int) (w : World) (hs : SlAt U8.cells 1 w bA b) (hl : b.length ≤ 3000) (hb : Bytes b) : Calls Try.prog 25 #[.slice bA b.length bC] w (DecPost b w) := by
  have HB : ∀ u [Later w u], SlAt U8.cells 1 u bA b := fun u i => hs.below i.below
  go_enter Try.func25, Try.ntmps25
  go_wp2_with (go_at_call 49; refine (newRd_any bA bC b _ (HB _) (by omega) hb).mono ?_)
  intro r w1 hh1
  obtain ⟨wb, gr, rfl, R1, hwb, hb1⟩ := hh1
  have l1 := later hb1
  have hgr1 : gr < w1.heap.size := by obtain ⟨_, _, _, _, _, h⟩ := R1.s; exact blk_lt h
  have hgrw : w.heap.size ≤ gr := Nat.le_trans hwb.size R1.gw
  go_wp2_with (go_at_call 11; refine (new_any _).mono ?_; rintro r w2 ⟨p, g, rfl, hp, hg, hT2, hb2⟩; have l2 := later hb2)
  have R2 := R1.below hb2
  have hp2 : p < w2.heap.size := blk_lt hT2.1
  have hg2 : g < w2.heap.size := hT2.2.lt
  have hpg := hT2.ne
  obtain ⟨n0, hn0⟩ : ∃ n0, n0 = cntOf b := ⟨_, rfl⟩
  obtain ⟨s0, hs0⟩ : ∃ s0, s0 = (rdC (b.length : Int) (b, 0)).2 := ⟨_, rfl⟩
  have hrc := rdC_range (m := (b.length : Int)) (st := (b, 0)) (by omega) hb
  have hn0' : (rdC (b.length : Int) (b, 0)).1 = (n0 : Int) := by rw [hn0]; unfold cntOf; omega
  have HC := count_any wb gr (b.length : Int) (b, 0) w2 R2 (by omega) (by omega)
  have hn0l : n0 ≤ b.length := by omega
  rw [hn0', ← hs0] at HC
  have hdR := hide (show decR b = addN n0 s0 [] by unfold decR; rw [← hn0, ← hs0])
  have hs0b := hide (show Bytes s0.1 by rw [hs0]; exact rdC_bytes hb)
  clear hn0 hs0 hrc hn0' R1
  go_upto_region 3 with (go_at_call 50; refine HC.mono ?_)
  intro r w3 h3
  obtain ⟨rfl, R3, on3⟩ := h3
  have hT3 := hT2.only on3 (by omega) (by omega)
  have hb03 : Below w.heap.size w w3 := (show Below w.heap.size w w2 from below_of).trans (on3.below (fun k e => by subst e; exact hgrw) (show Below w.heap.size w w2 from below_of).size)
  have hz23 := on3.size
  have hz12 := hb2.size
  have hz01 := hb1.size
  clear HC R2 hT2 on3 l1 l2
  go_wp2_with fail
  go_loopw [13] (fun iv wr => ∃ (k : Nat) (l : List StubE) (st : St), k ≤ n0 ∧ iv = .int .i64 k ∧ Hid (decR b = addN (n0 - k) st l ∧ Inv l ∧ (∀ e ∈ l, RngE e) ∧ Bytes st.1) ∧ l.length = k ∧ RD wb gr wr st ∧ TabAt wr p g l ∧ Below w.heap.size w wr) (fun iv _ => n0 - (intOf iv).toNat)
  case atStart => exact ⟨0, [], s0, by omega, rfl, hide ⟨hdR.out, inv_nil, (fun e he => by cases he), hs0b.out⟩, rfl, R3, hT3, hb03⟩
  case round =>
    clear R3 hT3 hb03
    obtain ⟨k, l, st, hk, rfl, hR, hlk, Rr, hT, hbr⟩ := hrel
    have hzr := hbr.size
    by_cases hlt : k < n0
    · obtain ⟨⟨e, s1⟩, he⟩ : ∃ u, rdEnt st = u := ⟨_, rfl⟩
      have HRd := read_any wb gr st wr Rr
      rw [he] at HRd
      have hok := hide (rdEnt_ok hR.out.2.2.2)
      rw [he] at hok
      have hlt' : (k : Int) < (n0 : Int) := by omega
      obtain ⟨ev, hev⟩ : ∃ ev, ev = addErr l e := ⟨_, rfl⟩
      have HA : ∀ u, TabAt u p g l → Calls Try.prog 27 #[.pointer (some ⟨p, 0, none⟩), e.v] u (MutPost u p g ev (addT l e)) := fun u h => by rw [hev]; exact add_any p g l e u h hR.out.2.1.ids
      have hnx := hide (show addN (n0 - k) st l = if ev = 0 then addN (n0 - (k + 1)) s1 (addT l e) else none by
        rw [show n0 - k = (n0 - (k + 1)) + 1 by omega, addN, he, hev])
      have hadd := hide (fun (h : ev = 0) => show addT l e = l ++ [e] from add_cases hR.out.2.1 (hev ▸ h))
      have hinv := hide (inv_add hR.out.2.1 e)
      clear he hev
      go_wp2_with (go_at_call 51; refine HRd.mono ?_)
      intro r w4 h4
      obtain ⟨rfl, R4, on4⟩ := h4
      have hT4 := hT.only on4 (by omega) (by omega)
      have hb04 := hbr.trans (on4.below (fun k e => by subst e; exact hgrw) hzr)
      have hz4 := on4.size
      by_cases h0 : ev = 0
      · go_wp2_with (go_at_call 27; refine (HA _ hT4).mono ?_; rintro r w5 ⟨rfl, hT5, hg5⟩)
        have hb05 := hb04.trans (grown_belowG hg5 (by omega) hb04.size)
        have R5 := R4.only (Only.of_grown hg5) (fun k hk => ⟨by have := R4.lw.size; have := hwb.size; have := R4.gw; omega, by omega⟩)
        go_roundw
        case rel =>
          refine ⟨k + 1, addT l e, s1, by omega, by go_num, hide ⟨by rw [hR.out.1, hnx.out, if_pos h0], hinv.out, ?_, hok.out.2⟩, by rw [hadd.out h0, List.length_append, hlk]; rfl, R5, hT5, hb05⟩
          rw [hadd.out h0]
          intro y hy
          rcases List.mem_append.1 hy with hy | hy
          · exact hR.out.2.2.1 y hy
          · rw [List.mem_singleton] at hy; subst hy; exact hok.out.1
        case measure => simp [intOf]; omega
      · have h0' : (ev != 0) = true := by simp [h0]
        have hbad := hide (show ¬ decOk b by
          rintro ⟨l', st', q, h1, _⟩
          rw [hR.out.1, hnx.out, if_neg h0] at h1
          cases h1)
        go_wp2_with (go_at_call 27; refine (HA _ hT4).mono ?_; rintro r w5 ⟨rfl, hT5, hg5⟩)
        have hb05 := hb04.trans (grown_belowG hg5 (by omega) hb04.size)
        refine bodyPost_ret (v := .tuple #[.pointer none, .int .i64 11]) (by simp [results, Try.results25, go_sem]) rfl ?_
        exact ⟨.inr ⟨rfl, hbad⟩, hb05⟩
    · have hk' : k = n0 := by omega
      subst hk'
      have hD := hide (show decR b = some (l, st) by rw [hR.out.1, Nat.sub_self]; rfl)
      obtain ⟨ed, hed⟩ : ∃ ed, ed = endE st := ⟨_, rfl⟩
      have HD : Calls Try.prog 52 #[.pointer (some ⟨gr, 0, none⟩)] wr fun r w' => r = .returned (.int .i64 ed) ∧ Below wr.heap.size wr w' := by rw [hed]; exact done_any wb gr st wr Rr
      have hed' := hide hed
      clear hed
      by_cases h0 : ed = 0
      rotate_left
      · have h0' : (ed != 0) = true := by simp [h0]
        have hbad := hide (show ¬ decOk b by
          rintro ⟨l', st', q, h1, h2, _⟩
          rw [hD.out] at h1
          injection h1 with h1
          injection h1 with h1 h3
          subst h3
          exact h0 (hed'.out.trans h2))
        go_wp2_with (go_at_call 52; refine HD.mono ?_; rintro r w5 ⟨rfl, hb5⟩)
        refine bodyPost_ret (v := .tuple #[.pointer none, .int .i64 11]) (by simp [results, Try.results25, go_sem]) rfl ?_
        exact ⟨.inr ⟨rfl, hbad⟩, hbr.trans (hb5.mono hzr)⟩
      · have hed0 := hide (show endE st = 0 from hed'.out.symm.trans h0)
        subst h0
        have lr : ∀ b [Later b w], Later b wr := later hbr
        have hve := hide (fun e (he : e ∈ l) => And.intro (hR.out.2.1.valid e he) (hR.out.2.2.1 e he))
        go_wp2_with (first
          | (go_at_call 52; refine HD.mono ?_; rintro r w5 ⟨rfl, hb5⟩; have l5 := later hb5; have hT5 := hT.later w5)
          | (go_at_call 26; refine (encode_any p g l _ (hT5.later _) (by omega) hve.out).mono ?_; rintro r w6 ⟨q0, qb, A6, c6, hq6, rfl, hc6, hm6, hs6, hb6⟩; have l6 := later hb6; have hT6 := hT5.later w6; have hqb63 : qb.length ≤ 9223372036854775807 := Nat.le_trans hc6 (Nat.le_trans hm6 (by simp [maxLen])))
          | (go_at_call 53; refine (equalB_any A6 c6 qb bA bC b _ (hs6.later _) (HB _) hqb63).mono ?_; rintro r w7 ⟨same, rfl, hsame, hb7⟩; have l7 := later hb7; have hT7 := hT6.later w7; have hsame' := hide hsame; clear hsame; rcases same))
        · have hbad := hide (show ¬ decOk b by
            rintro ⟨l', st', q, h1, _, h3, h4, h5⟩
            rw [hD.out] at h1
            injection h1 with h1
            injection h1 with h1 _
            subst h1
            have : q = q0 := sortedS_unique h4 hq6.out.2.1 (h3.trans hq6.out.1.symm)
            subst this
            have := hsame'.out.2 (hq6.out.2.2.trans h5)
            cases this)
          refine bodyPost_ret (v := .tuple #[.pointer none, .int .i64 11]) (by simp [results, Try.results25, go_sem]) rfl ?_
          exact ⟨.inr ⟨rfl, hbad⟩, below_of⟩
        · refine bodyPost_ret (v := .tuple #[.pointer (some ⟨p, 0, none⟩), .int .i64 0]) (by simp [results, Try.results25, go_sem]) rfl ?_
          exact ⟨.inl ⟨p, g, l, rfl, by omega, by omega, hT7, hide ⟨hR.out.2.1, hR.out.2.2.1, by omega, ⟨st, hD.out⟩, q0, hq6.out.1, hq6.out.2.1, by rw [← hq6.out.2.2]; exact hsame'.out.1 (by first | rfl | trivial)⟩⟩, below_of⟩
end Go.Proofs.Ytgddapgdeaeggaa

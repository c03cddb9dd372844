/-
  Contracts of the functions of this seat that each theorem names: what a call returns, and that it writes nothing that was there before. The conditions stand in each theorem.
-/
import Derived.Test.YtgddapgdeaeggaaC23LawTo
namespace Go.Proofs.Ytgddapgdeaeggaa
open Go.RowKit
attribute [local go_sem ↓] run_eql_id run_neq_id
def wantE (k : Int) (vb : Bool) (n : Int) (tb nb ob : Bool) : Int :=
  if ((k = 0 ∨ k = 1) ∧ vb = false) ∨ (k = 2 ∧ n < 0) then 1 else if k = 0 ∧ (tb || nb) = true then 5 else if 1 ≤ k ∧ k ≤ 4 ∧ tb = false then 6 else if k = 1 ∧ nb = true ∧ ob = false then 5 else 0
theorem err_want {L : List StubE} {c : CallE} (hi : Inv L) : callErr L c = wantE c.kind (validE c.ent) c.n (hasK L (keyE c.ent)) (hasID L (idE c.ent)) (ideq ((findK keyE L (keyE c.ent)).getD zeroE).iDMachine ((findK keyE L (keyE c.ent)).getD zeroE).iDSerial c.eIDMachine c.eIDSerial) := by
  unfold callErr wantE
  by_cases k0 : c.kind = 0
  · simp only [k0, if_true]
    unfold addErr
    cases validE c.ent <;> cases hasK L (keyE c.ent) <;> cases hasID L (idE c.ent) <;> simp
  · by_cases k1 : c.kind = 1
    · simp only [k1, if_true]
      unfold putErr
      cases hv : validE c.ent
      · simp
      · cases hk : hasK L (keyE c.ent)
        · simp
        · cases hn : hasID L (idE c.ent)
          · simp
          · obtain ⟨j, x, hf, hx, hkx⟩ := hasK_true hk
            have hz : ∃ z, findK idE L (idE c.ent) = some z := by
              unfold hasID at hn
              cases hf2 : findK idE L (idE c.ent) with
              | none => rw [hf2] at hn; cases hn
              | some z => exact ⟨z, rfl⟩
            obtain ⟨z, hz⟩ := hz
            obtain ⟨m, hm, hmz⟩ := findK_some hz
            rw [hf, hz]
            have hiff : (keyE z = keyE c.ent) ↔ (idE x = idE c.ent) := by
              constructor
              · intro h
                have : m = j := nodup_at hi.keys hm hx (h.trans hkx.symm)
                subst this
                rw [hm] at hx; injection hx with hx; subst hx; exact hmz
              · intro h
                have : m = j := nodup_at hi.ids hm hx (hmz.trans h.symm)
                subst this
                rw [hm] at hx; injection hx with hx; subst hx; exact hkx
            have hid : ideq x.iDMachine x.iDSerial c.eIDMachine c.eIDSerial = decide (idE x = idE c.ent) := ideq_iff (x := x) (id := idE c.ent)
            by_cases hq : idE x = idE c.ent
            · simp [hid, hq, hiff.2 hq]
            · have : ¬ keyE z = keyE c.ent := fun h => hq (hiff.1 h)
              simp [hid, hq, this]
    · by_cases k2 : c.kind = 2
      · simp only [k2]
        unfold useErr chErr
        by_cases hn : c.n < 0 <;> cases hasK L (keyE c.ent) <;> simp [hn]
      · by_cases k3 : c.kind = 3
        · simp only [k3]
          unfold chErr
          cases hasK L (keyE c.ent) <;> simp
        · by_cases k4 : c.kind = 4
          · simp only [k4]
            unfold chErr
            cases hasK L (keyE c.ent) <;> simp
          · have : ¬ (1 ≤ c.kind ∧ c.kind ≤ 4 ∧ hasK L (keyE c.ent) = false) := by omega
            simp [k0, k1, k2, k3, k4]
            omega
theorem err_same {L : List StubE} {c : CallE} (h : callErr L c ≠ 0) : callT L c = L := by
  unfold callErr at h
  unfold callT
  by_cases k0 : c.kind = 0
  · simp only [k0, if_true] at h ⊢
    unfold addT; rw [if_neg h]
  · by_cases k1 : c.kind = 1
    · have h' : putErr L c.ent ≠ 0 := by simpa [k1] using h
      have e : putT L c.ent = L := by unfold putT; rw [if_neg h']
      simp [k1, e]
    · by_cases k2 : c.kind = 2
      · simp only [k2] at h ⊢
        unfold useT
        unfold useErr chErr hasK at h
        by_cases hn : c.n < 0
        · simp [hn]
        · cases hf : findK keyE L (keyE c.ent) with
          | none => simp [hn, chT, hf]
          | some z => simp [hn, hf] at h
      · by_cases k3 : c.kind = 3
        · simp only [k3] at h ⊢
          unfold chErr hasK at h
          cases hf : findK keyE L (keyE c.ent) with
          | none => simp [chT, hf]
          | some z => simp [hf] at h
        · by_cases k4 : c.kind = 4
          · simp only [k4] at h ⊢
            unfold chErr hasK at h
            cases hf : findK keyE L (keyE c.ent) with
            | none =>
              have := findK_none' hf
              simp
              exact List.filter_eq_self.2 fun x hx => by simpa using this x hx
            | some z => simp [hf] at h
          · simp [k0, k1, k2, k3, k4] at h
set_option maxRecDepth 100000 in
set_option maxHeartbeats 8000000 in
theorem errors_any (A : Option Addr) (C : Nat) (cs : List CallE) (c : CallE) (w : World) (hs : SlAt CallE.cells 14 w A cs) (hl : cs.length ≤ 9223372036854775807) : Calls Try.prog 5 #[.slice A cs.length C, c.v] w fun r w' => r = .returned (.bool true) ∧ Below w.heap.size w w' := by
  have HS : ∀ u [Later w u], SlAt CallE.cells 14 u A cs := fun u i => hs.below i.below
  go_enter Try.func5, Try.ntmps5
  go_upto_region 1 with fail
  refine wp_name ?_
  intro w0 hw0
  obtain ⟨B0, l0⟩ := box1 hw0
  clear hw0
  by_cases hlen : (30 : Int) < (cs.length : Int)
  · go_wp2_with (go_at_call 10; refine (awake_any _).mono ?_; rintro r w1 ⟨rfl, hb1⟩; have l1 := later hb1)
    go_ret
    exact ⟨rfl, below_of⟩
  have hcl : cs.length ≤ 30 := by omega
  go_wp2_with (go_at_call 10; refine (awake_any _).mono ?_; rintro r w1 ⟨rfl, hb1⟩; have l1 := later hb1)
  go_wp2_with (go_at_call 16; refine (run_any A C cs _ (HS _) (by omega)).mono ?_; rintro r w2 ⟨p, g, rfl, hp, hg, hT0, hb2⟩; have l2 := later hb2)
  obtain ⟨L, hL⟩ : ∃ L, L = runT cs := ⟨_, rfl⟩
  have hLi : Inv L := by rw [hL]; exact inv_run cs
  have hLl : L.length ≤ 30 := by have := run_len cs; rw [hL]; omega
  rw [← hL] at hT0
  clear hL
  have hgl := hT0.2.lt
  have hpl := blk_lt hT0.1
  obtain ⟨y, hy⟩ : ∃ y, y = (findK keyE L (keyE c.ent)).getD zeroE := ⟨_, rfl⟩
  obtain ⟨tb, htb⟩ : ∃ b, b = hasK L (keyE c.ent) := ⟨_, rfl⟩
  obtain ⟨z, hz⟩ : ∃ z, z = (findK idE L (idE c.ent)).getD zeroE := ⟨_, rfl⟩
  obtain ⟨nb, hnb⟩ : ∃ b, b = hasID L (idE c.ent) := ⟨_, rfl⟩
  obtain ⟨vb, hvb⟩ : ∃ b, b = validE c.ent := ⟨_, rfl⟩
  obtain ⟨ob, hob⟩ : ∃ b, b = ideq y.iDMachine y.iDSerial c.eIDMachine c.eIDSerial := ⟨_, rfl⟩
  obtain ⟨ev, hevd⟩ : ∃ e, e = callErr L c := ⟨_, rfl⟩
  have hev := hide (show ev = wantE c.kind vb c.n tb nb ob by rw [hevd, hvb, htb, hnb, hob, hy]; exact err_want hLi)
  have hsame := hide (fun (h : ev ≠ 0) => show callT L c = L from err_same (hevd ▸ h))
  have HF : ∀ u [Later w2 u], Calls Try.prog 18 #[.pointer (some ⟨p, 0, none⟩), .int .i64 c.eOwner, .int .u64 c.eNumber] u fun r w' => r = .returned (.tuple #[y.v, .bool tb]) ∧ Below u.heap.size u w' := fun u i => by
    have h := find_any p g L c.eOwner c.eNumber u (hT0.later u)
    rw [hy, htb]; exact h
  have HB : ∀ u [Later w2 u], Calls Try.prog 19 #[.pointer (some ⟨p, 0, none⟩), .agg #[.int .i64 c.eIDMachine, .int .i64 c.eIDSerial]] u fun r w' => r = .returned (.tuple #[z.v, .bool nb]) ∧ Below u.heap.size u w' := fun u i => by
    have h := byID_any p g L (idE c.ent) u (hT0.later u) hLi.ids
    rw [hz, hnb]; exact h
  have HV : ∀ u, Calls Try.prog 17 #[c.ent.v] u fun r w' => r = .returned (.bool vb) ∧ Below u.heap.size u w' := fun u => by rw [hvb]; exact refValid_any c.ent u
  have HSt : ∀ u [Later w2 u], Calls Try.prog 14 #[.pointer (some ⟨p, 0, none⟩), c.v] u (MutPost u p g ev (callT L c)) := fun u i => by rw [hevd]; exact step_any p g L c u (hT0.later u) hLi
  have Hob := hide hob
  have hcT := hide (call_len L c)
  clear hy htb hz hnb hvb hevd hLi hob
  go_upto_region 9 with (go_at_call 12; refine (list_any p g L _ (hT0.later _) (by omega)).mono ?_; rintro r w3 ⟨q, B, D, hq, rfl, ho3, hb3⟩; have l3 := later hb3)
  have hql : q.length ≤ 30 := by rw [hq.out.1.length_eq]; exact hLl
  go_upto_region 10 with (go_at_call 18; refine (HF _).mono ?_; rintro r w4 ⟨rfl, hb4⟩; have l4 := later hb4)
  refine wp_name ?_
  intro w4' hw4
  have l4' := later_name' hw4 (inferInstance : Later w4 _)
  clear hw4
  go_upto_region 11 with (go_at_call 19; refine (HB _).mono ?_; rintro r w5 ⟨rfl, hb5⟩; have l5 := later hb5)
  refine wp_name ?_
  intro w5' hw5
  have l5' := later_name' hw5 (inferInstance : Later w5 _)
  clear hw5
  go_upto_region 12 with (go_at_call 18; refine (HF _).mono ?_; rintro r w6 ⟨rfl, hb6⟩; have l6 := later hb6)
  refine wp_name ?_
  intro w6' hw6
  obtain ⟨BY, l6'⟩ := box1 hw6
  have hz6 : w2.heap.size ≤ w6.heap.size := (show Below w2.heap.size w2 w6 from below_of).size
  clear hw6
  go_upto_region 13 with (go_at_call 14; refine (HSt _).mono ?_)
  rintro r w7 ⟨rfl, hT7, hg7⟩
  have g7 := gro hg7
  have hb06 : Below w.heap.size w w6' := below_of
  have hgw : w.heap.size ≤ g := Nat.le_trans (show Below w.heap.size w w1 from below_of).size hg
  have hb07 : Below w.heap.size w w7 := hb06.trans (grown_belowG hg7 hgw hb06.size)
  have hz0 : w.heap.size < g := by
    have := (show Below w0.heap.size w0 w1 from below_of).size
    have := boxed_lt B0
    omega
  have BC := boxed ((boxed_gro B0 (g := g) (by omega)) w7).1
  have BYg := boxed ((boxed_gro BY (g := g) (by omega)) w7).1
  have ho7 := (ho3.later w6').kept hg7 (own_notG ho3 hgl)
  have hq7' := (ho7.at_ StubE.enc).2.2
  have hq7 : ∀ u [Later w7 u], SlAt StubE.cells 12 u B q := fun u i => hq7'.below i.below
  have l7 : Later w7 w7 := Later.refl
  have lw7 : ∀ b [Later b w], Later b w7 := fun b i => ⟨i.below.trans (hb07.mono i.below.size)⟩
  clear B0 BY ho3 ho7 hq7' hT0 HF HB HSt hg7 g7 l7
  by_cases k0 : c.kind = 0
  · cases vb
    · obtain rfl : ev = 1 := by rw [hev.out]; unfold wantE; simp [*] <;> omega
      have hTL : callT L c = L := hsame.out (by decide)
      rw [hTL] at hT7
      go_wp2_with (first | (go_at_call 17; refine (HV _).mono ?_; rintro r wv ⟨rfl, hbv⟩; have lv := later hbv) | (go_at_call 12; refine (list_any p g L _ (hT7.later _) (by omega)).mono ?_; rintro r w8 ⟨q2, B2, D2, hq2, rfl, ho8, hb8⟩; have l8 := later hb8; have hq2e := hide (sortedS_unique hq2.out.2 hq.out.2 (hq2.out.1.trans hq.out.1.symm)); have hs8 := (ho8.at_ StubE.enc).2.2; rw [hq2e.out] at hs8 ⊢) | (go_at_call 15; refine (sameTrue_any B D B2 D2 q _ (hq7 _) hs8 (by omega)).mono ?_; rintro r w9 ⟨rfl, hb9⟩; have l9 := later hb9))
      go_ret
      exact ⟨rfl, hb07.trans ((below_of (b := w7)).mono hb07.size)⟩
    cases tb
    · cases nb
      · obtain rfl : ev = 0 := by rw [hev.out]; unfold wantE; simp [*] <;> omega
        go_wp2_with (go_at_call 17; refine (HV _).mono ?_; rintro r wv ⟨rfl, hbv⟩; have lv := later hbv)
        go_ret
        exact ⟨rfl, hb07.trans ((below_of (b := w7)).mono hb07.size)⟩
      · obtain rfl : ev = 5 := by rw [hev.out]; unfold wantE; simp [*] <;> omega
        have hTL : callT L c = L := hsame.out (by decide)
        rw [hTL] at hT7
        go_wp2_with (first | (go_at_call 17; refine (HV _).mono ?_; rintro r wv ⟨rfl, hbv⟩; have lv := later hbv) | (go_at_call 12; refine (list_any p g L _ (hT7.later _) (by omega)).mono ?_; rintro r w8 ⟨q2, B2, D2, hq2, rfl, ho8, hb8⟩; have l8 := later hb8; have hq2e := hide (sortedS_unique hq2.out.2 hq.out.2 (hq2.out.1.trans hq.out.1.symm)); have hs8 := (ho8.at_ StubE.enc).2.2; rw [hq2e.out] at hs8 ⊢) | (go_at_call 15; refine (sameTrue_any B D B2 D2 q _ (hq7 _) hs8 (by omega)).mono ?_; rintro r w9 ⟨rfl, hb9⟩; have l9 := later hb9))
        go_ret
        exact ⟨rfl, hb07.trans ((below_of (b := w7)).mono hb07.size)⟩
    · obtain rfl : ev = 5 := by rw [hev.out]; unfold wantE; simp [*] <;> omega
      have hTL : callT L c = L := hsame.out (by decide)
      rw [hTL] at hT7
      go_wp2_with (first | (go_at_call 17; refine (HV _).mono ?_; rintro r wv ⟨rfl, hbv⟩; have lv := later hbv) | (go_at_call 12; refine (list_any p g L _ (hT7.later _) (by omega)).mono ?_; rintro r w8 ⟨q2, B2, D2, hq2, rfl, ho8, hb8⟩; have l8 := later hb8; have hq2e := hide (sortedS_unique hq2.out.2 hq.out.2 (hq2.out.1.trans hq.out.1.symm)); have hs8 := (ho8.at_ StubE.enc).2.2; rw [hq2e.out] at hs8 ⊢) | (go_at_call 15; refine (sameTrue_any B D B2 D2 q _ (hq7 _) hs8 (by omega)).mono ?_; rintro r w9 ⟨rfl, hb9⟩; have l9 := later hb9))
      go_ret
      exact ⟨rfl, hb07.trans ((below_of (b := w7)).mono hb07.size)⟩
  by_cases k1 : c.kind = 1
  · cases vb
    · obtain rfl : ev = 1 := by rw [hev.out]; unfold wantE; simp [*] <;> omega
      have hTL : callT L c = L := hsame.out (by decide)
      rw [hTL] at hT7
      go_wp2_with (first | (go_at_call 17; refine (HV _).mono ?_; rintro r wv ⟨rfl, hbv⟩; have lv := later hbv) | (go_at_call 12; refine (list_any p g L _ (hT7.later _) (by omega)).mono ?_; rintro r w8 ⟨q2, B2, D2, hq2, rfl, ho8, hb8⟩; have l8 := later hb8; have hq2e := hide (sortedS_unique hq2.out.2 hq.out.2 (hq2.out.1.trans hq.out.1.symm)); have hs8 := (ho8.at_ StubE.enc).2.2; rw [hq2e.out] at hs8 ⊢) | (go_at_call 15; refine (sameTrue_any B D B2 D2 q _ (hq7 _) hs8 (by omega)).mono ?_; rintro r w9 ⟨rfl, hb9⟩; have l9 := later hb9))
      go_ret
      exact ⟨rfl, hb07.trans ((below_of (b := w7)).mono hb07.size)⟩
    cases tb
    · obtain rfl : ev = 6 := by rw [hev.out]; unfold wantE; simp [*] <;> omega
      have hTL : callT L c = L := hsame.out (by decide)
      rw [hTL] at hT7
      go_wp2_with (first | (go_at_call 17; refine (HV _).mono ?_; rintro r wv ⟨rfl, hbv⟩; have lv := later hbv) | (go_at_call 12; refine (list_any p g L _ (hT7.later _) (by omega)).mono ?_; rintro r w8 ⟨q2, B2, D2, hq2, rfl, ho8, hb8⟩; have l8 := later hb8; have hq2e := hide (sortedS_unique hq2.out.2 hq.out.2 (hq2.out.1.trans hq.out.1.symm)); have hs8 := (ho8.at_ StubE.enc).2.2; rw [hq2e.out] at hs8 ⊢) | (go_at_call 15; refine (sameTrue_any B D B2 D2 q _ (hq7 _) hs8 (by omega)).mono ?_; rintro r w9 ⟨rfl, hb9⟩; have l9 := later hb9))
      go_ret
      exact ⟨rfl, hb07.trans ((below_of (b := w7)).mono hb07.size)⟩
    cases nb
    · obtain rfl : ev = 0 := by rw [hev.out]; unfold wantE; simp [*] <;> omega
      go_wp2_with (go_at_call 17; refine (HV _).mono ?_; rintro r wv ⟨rfl, hbv⟩; have lv := later hbv)
      go_ret
      exact ⟨rfl, hb07.trans ((below_of (b := w7)).mono hb07.size)⟩
    have Ho := Hob.out.symm
    cases ob
    · obtain rfl : ev = 5 := by rw [hev.out]; unfold wantE; simp [*] <;> omega
      have hTL : callT L c = L := hsame.out (by decide)
      rw [hTL] at hT7
      go_wp2_with (first | (go_at_call 17; refine (HV _).mono ?_; rintro r wv ⟨rfl, hbv⟩; have lv := later hbv) | (go_at_call 12; refine (list_any p g L _ (hT7.later _) (by omega)).mono ?_; rintro r w8 ⟨q2, B2, D2, hq2, rfl, ho8, hb8⟩; have l8 := later hb8; have hq2e := hide (sortedS_unique hq2.out.2 hq.out.2 (hq2.out.1.trans hq.out.1.symm)); have hs8 := (ho8.at_ StubE.enc).2.2; rw [hq2e.out] at hs8 ⊢) | (go_at_call 15; refine (sameTrue_any B D B2 D2 q _ (hq7 _) hs8 (by omega)).mono ?_; rintro r w9 ⟨rfl, hb9⟩; have l9 := later hb9))
      go_ret
      exact ⟨rfl, hb07.trans ((below_of (b := w7)).mono hb07.size)⟩
    · obtain rfl : ev = 0 := by rw [hev.out]; unfold wantE; simp [*] <;> omega
      go_wp2_with (go_at_call 17; refine (HV _).mono ?_; rintro r wv ⟨rfl, hbv⟩; have lv := later hbv)
      go_ret
      exact ⟨rfl, hb07.trans ((below_of (b := w7)).mono hb07.size)⟩
  by_cases k2 : c.kind = 2
  · by_cases hn : c.n < 0
    · obtain rfl : ev = 1 := by rw [hev.out]; unfold wantE; simp [*] <;> omega
      have hTL : callT L c = L := hsame.out (by decide)
      rw [hTL] at hT7
      go_wp2_with (first | (go_at_call 17; refine (HV _).mono ?_; rintro r wv ⟨rfl, hbv⟩; have lv := later hbv) | (go_at_call 12; refine (list_any p g L _ (hT7.later _) (by omega)).mono ?_; rintro r w8 ⟨q2, B2, D2, hq2, rfl, ho8, hb8⟩; have l8 := later hb8; have hq2e := hide (sortedS_unique hq2.out.2 hq.out.2 (hq2.out.1.trans hq.out.1.symm)); have hs8 := (ho8.at_ StubE.enc).2.2; rw [hq2e.out] at hs8 ⊢) | (go_at_call 15; refine (sameTrue_any B D B2 D2 q _ (hq7 _) hs8 (by omega)).mono ?_; rintro r w9 ⟨rfl, hb9⟩; have l9 := later hb9))
      go_ret
      exact ⟨rfl, hb07.trans ((below_of (b := w7)).mono hb07.size)⟩
    cases tb
    · obtain rfl : ev = 6 := by rw [hev.out]; unfold wantE; simp [*] <;> omega
      have hTL : callT L c = L := hsame.out (by decide)
      rw [hTL] at hT7
      go_wp2_with (first | (go_at_call 17; refine (HV _).mono ?_; rintro r wv ⟨rfl, hbv⟩; have lv := later hbv) | (go_at_call 12; refine (list_any p g L _ (hT7.later _) (by omega)).mono ?_; rintro r w8 ⟨q2, B2, D2, hq2, rfl, ho8, hb8⟩; have l8 := later hb8; have hq2e := hide (sortedS_unique hq2.out.2 hq.out.2 (hq2.out.1.trans hq.out.1.symm)); have hs8 := (ho8.at_ StubE.enc).2.2; rw [hq2e.out] at hs8 ⊢) | (go_at_call 15; refine (sameTrue_any B D B2 D2 q _ (hq7 _) hs8 (by omega)).mono ?_; rintro r w9 ⟨rfl, hb9⟩; have l9 := later hb9))
      go_ret
      exact ⟨rfl, hb07.trans ((below_of (b := w7)).mono hb07.size)⟩
    · obtain rfl : ev = 0 := by rw [hev.out]; unfold wantE; simp [*] <;> omega
      go_wp2_with (go_at_call 17; refine (HV _).mono ?_; rintro r wv ⟨rfl, hbv⟩; have lv := later hbv)
      go_ret
      exact ⟨rfl, hb07.trans ((below_of (b := w7)).mono hb07.size)⟩
  by_cases h1 : 1 ≤ c.kind
  · by_cases h4 : c.kind ≤ 4
    · cases tb
      · obtain rfl : ev = 6 := by rw [hev.out]; unfold wantE; simp [*] <;> omega
        have hTL : callT L c = L := hsame.out (by decide)
        rw [hTL] at hT7
        go_wp2_with (first | (go_at_call 17; refine (HV _).mono ?_; rintro r wv ⟨rfl, hbv⟩; have lv := later hbv) | (go_at_call 12; refine (list_any p g L _ (hT7.later _) (by omega)).mono ?_; rintro r w8 ⟨q2, B2, D2, hq2, rfl, ho8, hb8⟩; have l8 := later hb8; have hq2e := hide (sortedS_unique hq2.out.2 hq.out.2 (hq2.out.1.trans hq.out.1.symm)); have hs8 := (ho8.at_ StubE.enc).2.2; rw [hq2e.out] at hs8 ⊢) | (go_at_call 15; refine (sameTrue_any B D B2 D2 q _ (hq7 _) hs8 (by omega)).mono ?_; rintro r w9 ⟨rfl, hb9⟩; have l9 := later hb9))
        go_ret
        exact ⟨rfl, hb07.trans ((below_of (b := w7)).mono hb07.size)⟩
      · obtain rfl : ev = 0 := by rw [hev.out]; unfold wantE; simp [*] <;> omega
        go_wp2_with (go_at_call 17; refine (HV _).mono ?_; rintro r wv ⟨rfl, hbv⟩; have lv := later hbv)
        go_ret
        exact ⟨rfl, hb07.trans ((below_of (b := w7)).mono hb07.size)⟩
    · obtain rfl : ev = 0 := by rw [hev.out]; unfold wantE; simp [*] <;> omega
      go_wp2_with (go_at_call 17; refine (HV _).mono ?_; rintro r wv ⟨rfl, hbv⟩; have lv := later hbv)
      go_ret
      exact ⟨rfl, hb07.trans ((below_of (b := w7)).mono hb07.size)⟩
  · obtain rfl : ev = 0 := by rw [hev.out]; unfold wantE; simp [*] <;> omega
    go_wp2_with (go_at_call 17; refine (HV _).mono ?_; rintro r wv ⟨rfl, hbv⟩; have lv := later hbv)
    go_ret
    exact ⟨rfl, hb07.trans ((below_of (b := w7)).mono hb07.size)⟩
end Go.Proofs.Ytgddapgdeaeggaa

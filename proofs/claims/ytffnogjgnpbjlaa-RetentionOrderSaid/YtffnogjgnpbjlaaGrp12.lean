/-
  Small texts of this seat, put into one. Conditions stand in each theorem.
-/
import Derived.Test.YtffnogjgnpbjlaaGrp11
import Derived.Test.YtffnogjgnpbjlaaGrp7
set_option linter.unusedSimpArgs false
set_option linter.unusedVariables false
namespace Go.Proofs.Ytffnogjgnpbjlaa
open Go.RowKit
attribute [local go_sem] Oper.semAt_some
attribute [local simp] heap_drew
theorem intTS : ElemT Try.prog 32 3 1 8 := ElemT.mk' (z := .int .i64 0) Try.underlying32 (by kernel_rfl) rfl
theorem sizeI_words {L : List NodeC} {roots r : List IDE} {y : IDE} (h : RetL L roots y r) : sumW L (setI r) = sizeI L roots y := by
  have e : r = setI r := setI_unique h.1 fun x => Iff.rfl
  rw [← e]
  exact sizeP_iff.1 fun q hq => by rw [h.unique hq]
set_option maxRecDepth 100000 in
set_option maxHeartbeats 8000000 in
theorem refSizes_any (A : Option Addr) (c : Nat) (l : List NodeE) (RA : Option Addr) (rc : Nat) (roots : List IDE) (w : World) (H : NodesAt w A l) (hR : SlAt IDE.cells 2 w RA roots) (hl : l.length ≤ 10000) (hf : ∀ n ∈ l, n.fields.length ≤ 10000) (hr : roots.length ≤ 10000) (HT : ∃ ids0 d0, TreeOk (conL l) roots ids0 d0) :
    Calls Try.prog 16 #[.agg #[.slice A l.length c], .slice RA roots.length rc] w (SizP (conL l) roots w) := by
  have HR16 : ∀ u [Later w u], Calls Try.prog 36 #[.agg #[.slice A l.length c], .slice RA roots.length rc] u (ReachPost (conL l) roots u) := fun u i => reach16_any A c l RA rc roots u (H.below i.below) (hR.below i.below) hl hf hr
  have HRet : ∀ (x : IDE) (u : World) [Later w u], Calls Try.prog 37 #[.agg #[.slice A l.length c], x.v, .slice RA roots.length rc] u (RetPP (conL l) roots x u) := fun x u i => refRet_any A c l x RA rc roots u (H.below i.below) (hR.below i.below) hl hf hr
  have HWo : ∀ (p : List IDE) (PA : Option Addr) (PC : Nat) (u : World) [Later w u], SlAt IDE.cells 2 u PA p → p.length ≤ 10000 → Calls Try.prog 21 #[.agg #[.slice A l.length c], .slice PA p.length PC] u (WorP (conL l) p u) := fun p PA PC u i hp hpl => refWords_any A c l PA PC p u (H.below i.below) hp hl hf hpl
  have hll : (conL l).length ≤ 10000 := by unfold conL; rw [List.length_map]; exact hl
  have Hbd := hide (conL_bnd hf)
  have HTT := hide HT
  clear HT
  go_enter Try.func16, Try.ntmps16
  go_upto_region 1 with fail
  refine wp_name ?_
  intro w1 hw1
  obtain ⟨B0, l1⟩ := box1 hw1
  clear hw1
  go_upto_region 2 with (go_at_call 36; refine (HR16 _).mono ?_; rintro r w2 ⟨q, QA, QC, hq, rfl, hoq, hb2⟩; have l2 := later hb2)
  have hql : q.length ≤ 10000 := by
    have := reach_len (l := conL l) hq.1.nodup (fun z hz => firstN_ids.1 ((hq.2 z).1 hz).node)
    omega
  have Hq := hide hq
  clear hq HR16
  have hS2 := (hoq.at_ IDE.enc).2.2
  go_upto_region 3 with fail
  refine wp_name ?_
  intro w3 hw3
  have hk3 : Own I64.cells 1 3 w2.heap.size w3 (.slice (some ⟨w2.heap.size, 0, none⟩) 0 0) ([] : List Int) := Own.empty_blk (Nat.le_refl _) (by rw [← hw3]; exact heap_alloc_new _ _)
  have hb3 : Below w2.heap.size w2 w3 := by rw [← hw3]; exact (by repeat (first | with_reducible exact Below.refl _ _ | (with_reducible refine Below.drew ?_) | (with_reducible refine below_drewN ?_ _) | (with_reducible refine Below.alloc ?_ ?_ _; rotate_left; (first | omega | (simp <;> omega))) | (with_reducible refine Below.setCell ?_ ?_ _; rotate_left; (first | omega | (simp <;> omega)))))
  clear hw3
  have lw2 : Later w w2 := by infer_instance
  go_wp2_with fail
  go_loopw [7, 8] (fun ov kv wr => ∃ (k : Nat) (s : List Int) (KA : Option Addr) (KC : Nat), k ≤ q.length ∧ kv = .int .i64 k ∧ ov = .slice KA k KC ∧ Hid (s = (q.take k).map (sizeI (conL l) roots)) ∧ Own I64.cells 1 3 w2.heap.size wr (.slice KA k KC) s ∧ Below w2.heap.size w2 wr) (fun _ kv _ => q.length - (intOf kv).toNat)
  case atStart => exact ⟨0, [], _, _, by omega, rfl, rfl, hide rfl, hk3, hb3⟩
  case round =>
    obtain ⟨k, s, KA, KC, hk, rfl, rfl, hs, hok, hbr⟩ := hrel
    have lr := later hbr
    have lrr : Later wr wr := Later.refl
    by_cases hlt : k < q.length
    · have hki : (k : Int) < (q.length : Int) := by omega
      obtain ⟨y, hy⟩ : ∃ y, q[k]? = some y := ⟨_, List.getElem?_eq_getElem hlt⟩
      obtain ⟨b9, o9, rfl, C1, C2⟩ := id_at hS2 hy
      have hsn := hide (show (q.take (k + 1)).map (sizeI (conL l) roots) = s ++ [sizeI (conL l) roots y] by rw [take_snoc_get hy, List.map_append, hs.out]; rfl)
      have HRy := fun (u : World) (j : Later w u) => HRet y u
      have hkl := hide (show s.length + 1 = k + 1 by rw [hs.out, List.length_map, List.length_take]; omega)
      have hplen := hide (show ∀ p, RetL (conL l) roots y p → p.length ≤ 10000 from fun p hp => Nat.le_trans (nodup_len hp.1.nodup (fun z hz => (Hq.out.2 z).2 ((hp.2 z).1 hz).1)) hql)
      clear hy
      have hyz := hide (show ∀ p, RetL (conL l) roots y p → sumW (conL l) (setI p) = sizeI (conL l) roots y from fun p hp => sizeI_words hp)
      generalize sizeI (conL l) roots y = sz at hsn hyz
      obtain ⟨y1, y2⟩ := y
      dsimp only at C1 C2
      dsimp only [IDE.v] at HRy
      go_upto_region 6 with fail
      refine wp_region_held_drew (S := fun w' => ∀ b [Later b w2], Later b w') (by kernel_rfl) (fun b _ => inferInstance) (fun hHeld => ?_)
      have hdr : ∀ b [Later b wr], Later b wr.drew := fun b _ => inferInstance
      have hok' := hok.below (show Below wr.heap.size wr wr.drew from (Below.refl _ _).drew)
      obtain ⟨wz, hwz⟩ : ∃ z, z = wr.drew := ⟨_, rfl⟩
      rw [← hwz] at hHeld hdr hok' ⊢
      clear hwz
      have lz := hdr wr
      refine wpAnyH_take (i := 0) (oi := _) (v := ?_) rfl (by kernel_rfl) (by kernel_rfl) (by kernel_rfl) (fun _ _ _ h => h) (Or.inl ⟨by rfl, ?_⟩) (by assumption) ?_
      rotate_left 1
      · (intro wy hSw; (try dsimp only at hSw); go_simp; try with_reducible rfl)
      (try simp only [Act.put, List.getElem_toArray, List.getElem_cons_succ, List.getElem_cons_zero, List.setIfInBounds_toArray, List.set_cons_zero, List.set_cons_succ])
      refine wpAnyH_take (i := 1) (oi := _) (v := ?_) rfl (by kernel_rfl) (by kernel_rfl) (by kernel_rfl) (fun _ _ _ h => h) (Or.inl ⟨by rfl, ?_⟩) (by assumption) ?_
      rotate_left 1
      · (intro wy hSw; (try dsimp only at hSw); go_simp; try with_reducible rfl)
      (try simp only [Act.put, List.getElem_toArray, List.getElem_cons_succ, List.getElem_cons_zero, List.setIfInBounds_toArray, List.set_cons_zero, List.set_cons_succ])
      refine wpAnyH_take (i := 2) (oi := _) (v := ?_) rfl (by kernel_rfl) (by kernel_rfl) (by kernel_rfl) (fun _ _ _ h => h) (Or.inl ⟨by rfl, ?_⟩) (by assumption) ?_
      rotate_left 1
      · (intro wy hSw; (try dsimp only at hSw); go_simp; try with_reducible rfl)
      (try simp only [Act.put, List.getElem_toArray, List.getElem_cons_succ, List.getElem_cons_zero, List.setIfInBounds_toArray, List.set_cons_zero, List.set_cons_succ])
      refine wpAnyH_take (i := 3) (oi := _) (v := ?_) rfl (by kernel_rfl) (by kernel_rfl) (by kernel_rfl) (fun _ _ _ h => h) (Or.inl ⟨by rfl, ?_⟩) (by assumption) ?_
      rotate_left 1
      · (intro wy hSw; (try dsimp only at hSw); go_simp; try with_reducible rfl)
      (try simp only [Act.put, List.getElem_toArray, List.getElem_cons_succ, List.getElem_cons_zero, List.setIfInBounds_toArray, List.set_cons_zero, List.set_cons_succ])
      refine wpAnyH_take (i := 4) (oi := _) (v := ?_) rfl (by kernel_rfl) (by kernel_rfl) (by kernel_rfl) (fun _ _ _ h => h) (Or.inl ⟨by rfl, ?_⟩) (by assumption) ?_
      rotate_left 1
      · (intro wy hSw; (try dsimp only at hSw); go_simp; try with_reducible rfl)
      (try simp only [Act.put, List.getElem_toArray, List.getElem_cons_succ, List.getElem_cons_zero, List.setIfInBounds_toArray, List.set_cons_zero, List.set_cons_succ])
      refine wpAnyH_take (i := 5) (oi := _) (v := ?_) rfl (by kernel_rfl) (by kernel_rfl) (by kernel_rfl) (fun _ _ _ h => h) (Or.inl ⟨by rfl, ?_⟩) (by assumption) ?_
      rotate_left 1
      · (intro wy hSw; (try dsimp only at hSw); go_simp; try with_reducible rfl)
      (try simp only [Act.put, List.getElem_toArray, List.getElem_cons_succ, List.getElem_cons_zero, List.setIfInBounds_toArray, List.set_cons_zero, List.set_cons_succ])
      refine wpAnyH_take (i := 6) (oi := _) (v := ?_) rfl (by kernel_rfl) (by kernel_rfl) (by kernel_rfl) (fun _ _ _ h => h) (Or.inl ⟨by rfl, ?_⟩) (by assumption) ?_
      rotate_left 1
      · (intro wy hSw; (try dsimp only at hSw); go_simp; try with_reducible rfl)
      (try simp only [Act.put, List.getElem_toArray, List.getElem_cons_succ, List.getElem_cons_zero, List.setIfInBounds_toArray, List.set_cons_zero, List.set_cons_succ])
      refine wpAnyH_take (i := 7) (oi := _) (v := ?_) rfl (by kernel_rfl) (by kernel_rfl) (by kernel_rfl) (fun _ _ _ h => h) (Or.inl ⟨by rfl, ?_⟩) (by assumption) ?_
      rotate_left 1
      · (intro wy hSw; (try dsimp only at hSw); go_simp; try with_reducible rfl)
      (try simp only [Act.put, List.getElem_toArray, List.getElem_cons_succ, List.getElem_cons_zero, List.setIfInBounds_toArray, List.set_cons_zero, List.set_cons_succ])
      refine wpAnyH_ready (rs := [8]) (by kernel_rfl) (by simp) ?_
      refine AllReadyH.cons (o := _) rfl ?_ AllReadyH.nil
      intro K9 hK9
      go_simp
      refine (HRy wz inferInstance).mono ?_
      rintro r w5 ⟨p, PA, PC, rfl, hp, hop, hb5⟩
      have l5 := later hb5
      have hSp := (hop.at_ IDE.enc).2.2
      have hpl := hplen.out p hp.out
      have HWp := HWo p PA PC w5 hSp hpl
      (try dsimp only)
      refine hK9.out _ _ (fun b _ => inferInstance) (fun hHeld2 => ?_)
      clear hK9 K9 hHeld
      (try simp only [Act.put, List.getElem_toArray, List.getElem_cons_succ, List.getElem_cons_zero, List.setIfInBounds_toArray, List.set_cons_zero, List.set_cons_succ])
      refine wpAnyH_ready (rs := [9]) (by kernel_rfl) (by simp) ?_
      refine AllReadyH.cons (o := _) rfl ?_ AllReadyH.nil
      intro K9 hK9
      go_simp
      refine HWp.mono ?_
      rintro r w6 ⟨t, rfl, ht, hb6⟩
      have l6 := later hb6
      have hts := hyz.out p hp.out
      rw [← ht.out] at hts
      subst hts
      (try dsimp only)
      refine hK9.out _ _ (fun b _ => inferInstance) (fun hHeld => ?_)
      clear hK9 K9 hHeld2
      (try simp only [Act.put, List.getElem_toArray, List.getElem_cons_succ, List.getElem_cons_zero, List.setIfInBounds_toArray, List.set_cons_zero, List.set_cons_succ])
      refine wpAnyH_ready (rs := [10]) (by kernel_rfl) (by simp) ?_
      refine AllReadyH.cons (o := _) rfl ?_ AllReadyH.nil
      intro K9 hK9
      go_simp
      refine hK9.out _ _ (fun b _ => inferInstance) (fun hHeld2 => ?_)
      clear hK9 K9 hHeld
      (try simp only [Act.put, List.getElem_toArray, List.getElem_cons_succ, List.getElem_cons_zero, List.setIfInBounds_toArray, List.set_cons_zero, List.set_cons_succ])
      obtain ⟨w7, hw7⟩ : ∃ z, z = w6.alloc (.cells #[.int .i64 t] 3 (0, 0)) := ⟨_, rfl⟩
      have kx : w7.heap[w6.heap.size]? = some (.cells #[.int .i64 t] 3 (0, 0)) := by rw [hw7]; exact heap_alloc_new _ _
      have hb67 : Below w6.heap.size w6 w7 := by rw [hw7]; exact (by repeat (first | with_reducible exact Below.refl _ _ | (with_reducible refine Below.drew ?_) | (with_reducible refine below_drewN ?_ _) | (with_reducible refine Below.alloc ?_ ?_ _; rotate_left; (first | omega | (simp <;> omega))) | (with_reducible refine Below.setCell ?_ ?_ _; rotate_left; (first | omega | (simp <;> omega)))))
      rw [← hw7]
      have hrz : Below wr.heap.size wr wz := lz.below
      have hzr5 := Nat.le_trans hrz.size hb5.size
      have hzr6 := Nat.le_trans hzr5 hb6.size
      have hb27 : Below w2.heap.size w2 w7 := hbr.trans ((hrz.trans ((hb5.mono hrz.size).trans ((hb6.mono hzr5).trans (hb67.mono hzr6)))).mono hbr.size)
      clear hw7 hHeld2
      have hok7 := ((hok'.below hb5).below hb6).below hb67
      have hz7 := hb27.size
      refine wpAnyH_ready (rs := [11]) (by kernel_rfl) (by simp) ?_
      refine AllReadyH.cons (o := _) rfl ?_ AllReadyH.nil
      intro K9 hK9
      refine step_app2 rfl (.tmp 19) (.tmp 29) (by rfl) I64.enc intTS _ _ [t] s (.slice KA k KC) (by rfl) (by rfl) (m := 1) (n := k + 1) rfl hkl.out hok7 (blk_slAt I64.enc (fr := (0, 0)) (e := 3) kx [t] rfl) (by omega) (by unfold maxLen; omega) hz7 ?_
      intro A7 c7 w8 ho8 hm8 hst
      have hb28 : Below w2.heap.size w2 w8 := hok7.belowGrown hb27 hst.1 (Nat.le_refl _) hz7
      have l8 := later hb28
      refine hK9.out _ _ (fun b _ => inferInstance) (fun hHeld => ?_)
      clear hK9 K9
      (try simp only [Act.put, List.getElem_toArray, List.getElem_cons_succ, List.getElem_cons_zero, List.setIfInBounds_toArray, List.set_cons_zero, List.set_cons_succ])
      refine wpAnyH_take (i := 12) (oi := _) (v := ?_) rfl (by kernel_rfl) (by kernel_rfl) (by kernel_rfl) (fun _ _ _ h => h) (Or.inl ⟨by rfl, ?_⟩) (by assumption) ?_
      rotate_left 1
      · (intro wy hSw; (try dsimp only at hSw); go_simp; try with_reducible rfl)
      (try simp only [Act.put, List.getElem_toArray, List.getElem_cons_succ, List.getElem_cons_zero, List.setIfInBounds_toArray, List.set_cons_zero, List.set_cons_succ])
      refine wpAnyH_done (by kernel_rfl) ?_ _
      clear hHeld hok7 hst hb27 hb67 kx lz hrz hdr
      go_wp2_with fail
      go_roundw
      case rel => exact ⟨k + 1, s ++ [t], A7, c7, by omega, by go_num, rfl, hide hsn.out.symm, ho8, hb28⟩
      case measure => simp [intOf]; omega
    · have hkk : k = q.length := by omega
      subst hkk
      have hsz : s = q.map (sizeI (conL l) roots) := by rw [hs.out, List.take_length]
      have hoq' := hoq.below hbr
      have hap := own_apart hoq' hok (by decide)
      have hw12 := (show Later w w1 from inferInstance).below.size
      go_wp2_with fail
      refine bodyPost_ret (v := .tuple #[.slice QA q.length QC, .slice KA q.length KC]) (by simp [results, Try.results16, go_sem]) rfl ?_
      refine ⟨q, s, QA, QC, KA, KC, rfl, hide ⟨Hq.out, ⟨by rw [hsz, List.length_map], fun j y hj => ⟨sizeI (conL l) roots y, by rw [hsz, List.getElem?_map, hj]; rfl, sizeP_iff.2 rfl⟩⟩, HTT.out⟩, hoq'.mono hw12, hok.mono lw2.below.size, hap, lw2.below.trans (hbr.mono lw2.below.size)⟩
end Go.Proofs.Ytffnogjgnpbjlaa

namespace Go.Proofs.Ytffnogjgnpbjlaa
open Go.RowKit
attribute [local go_sem] Oper.semAt_some
attribute [local simp] heap_drew
theorem idTL : ElemT Try.prog 25 46 2 16 := ElemT.mk' (z := .agg #[.int .i64 0, .int .i64 0]) Try.underlying25 (by kernel_rfl) rfl
/-! ### Plain -/
/-- What was chosen is the beginning. -/
structure Chosen (s : IDE → Int) (q o : List IDE) : Prop where
  pw : o.Pairwise (bigger s)
  sub : ∀ x ∈ o, x ∈ q
  rest : ∀ x ∈ q, x ∉ o → ∀ y ∈ o, bigger s y x
/-- The best of the first i that were not chosen. -/
def PickP (s : IDE → Int) (q o : List IDE) (i : Nat) (b : Int) : Prop :=
  (b = -1 ∧ ∀ (j : Nat) (x : IDE), j < i → q[j]? = some x → x ∈ o) ∨
    ∃ (k : Nat) (x : IDE), b = (k : Int) ∧ k < i ∧ q[k]? = some x ∧ x ∉ o ∧ ∀ (j : Nat) (z : IDE), j < i → q[j]? = some z → z ∉ o → z ≠ x → bigger s x z
section
variable {s : IDE → Int} {q o : List IDE} {i k : Nat} {x y : IDE} {b : Int}
theorem Chosen.nil : Chosen s q [] := ⟨.nil, (fun x h => by cases h), fun x _ _ y h => by cases h⟩
theorem Chosen.nodup (h : Chosen s q o) : o.Nodup := h.pw.imp (S := fun a b => a ≠ b) (fun {a c} (hb : bigger s a c) (e : a = c) => bigger_irrefl c (by rw [e] at hb; exact hb))
theorem Chosen.push (h : Chosen s q o) (hx : x ∈ q) (hn : x ∉ o) (hb : ∀ z ∈ q, z ∉ o → z ≠ x → bigger s x z) : Chosen s q (o ++ [x]) where
  pw := List.pairwise_append.2 ⟨h.pw, List.pairwise_singleton _ _, fun a ha c hc => by rw [List.mem_singleton] at hc; subst hc; exact h.rest _ hx hn a ha⟩
  sub z hz := by
    rcases List.mem_append.1 hz with hz | hz
    · exact h.sub z hz
    · rw [List.mem_singleton] at hz; subst hz; exact hx
  rest z hz hzn y hy := by
    rw [List.mem_append, List.mem_singleton] at hzn
    rcases List.mem_append.1 hy with hy | hy
    · exact h.rest z hz (fun e => hzn (.inl e)) y hy
    · rw [List.mem_singleton] at hy; subst hy
      exact hb z hz (fun e => hzn (.inl e)) (fun e => hzn (.inr e))
theorem PickP.zero : PickP s q o 0 (-1) := .inl ⟨rfl, fun j x h => by omega⟩
theorem PickP.used (h : PickP s q o i b) (hx : q[i]? = some x) (hxo : x ∈ o) : PickP s q o (i + 1) b := by
  rcases h with ⟨h1, h2⟩ | ⟨k, z, h1, h2, h3, h4, h5⟩
  · refine .inl ⟨h1, fun j z hj hz => ?_⟩
    rcases Nat.lt_or_ge j i with h | h
    · exact h2 j z h hz
    · have : j = i := by omega
      subst this
      rw [hx] at hz; injection hz with hz; subst hz; exact hxo
  · refine .inr ⟨k, z, h1, by omega, h3, h4, fun j t hj ht hto htz => ?_⟩
    rcases Nat.lt_or_ge j i with h | h
    · exact h5 j t h ht hto htz
    · have : j = i := by omega
      subst this
      rw [hx] at ht; injection ht with ht; subst ht; exact absurd hxo hto
theorem PickP.first (h : PickP s q o i (-1)) (hx : q[i]? = some x) (hxo : x ∉ o) : PickP s q o (i + 1) (i : Int) := by
  rcases h with ⟨_, h2⟩ | ⟨k, z, h1, _⟩
  · refine .inr ⟨i, x, rfl, by omega, hx, hxo, fun j t hj ht hto htz => ?_⟩
    rcases Nat.lt_or_ge j i with h | h
    · exact absurd (h2 j t h ht) hto
    · have : j = i := by omega
      subst this
      rw [hx] at ht; injection ht with ht; exact absurd ht.symm htz
  · omega
theorem PickP.better (h : PickP s q o i (k : Int)) (hx : q[i]? = some x) (hxo : x ∉ o) (hk : q[k]? = some y) (hlt : s y < s x) : PickP s q o (i + 1) (i : Int) := by
  rcases h with ⟨h1, _⟩ | ⟨k', z, h1, h2, h3, h4, h5⟩
  · omega
  · have : k' = k := by omega
    subst this
    have : z = y := Option.some.inj (h3.symm.trans hk)
    subst this
    refine .inr ⟨i, x, rfl, by omega, hx, hxo, fun j t hj ht hto htz => ?_⟩
    rcases Nat.lt_or_ge j i with h | h
    · by_cases e : t = z
      · subst e; exact .inl hlt
      · rcases h5 j t h ht hto e with h6 | ⟨h6, _⟩
        · left; omega
        · left; omega
    · have : j = i := by omega
      subst this
      rw [hx] at ht; injection ht with ht; exact absurd ht.symm htz
theorem PickP.worse (hq : SortedI q) (h : PickP s q o i (k : Int)) (hx : q[i]? = some x) (hk : q[k]? = some y) (hlt : ¬ s y < s x) : PickP s q o (i + 1) (k : Int) := by
  rcases h with ⟨h1, _⟩ | ⟨k', z, h1, h2, h3, h4, h5⟩
  · omega
  · have : k' = k := by omega
    subst this
    have : z = y := Option.some.inj (h3.symm.trans hk)
    subst this
    refine .inr ⟨k', z, rfl, by omega, h3, h4, fun j t hj ht hto htz => ?_⟩
    rcases Nat.lt_or_ge j i with h | h
    · exact h5 j t h ht hto htz
    · have : j = i := by omega
      subst this
      rw [hx] at ht; injection ht with ht; subst ht
      rcases (show s x < s z ∨ s z ≤ s x by omega) with h6 | h6
      · exact .inl h6
      · refine .inr ⟨by omega, ?_⟩
        have := List.pairwise_iff_getElem.1 hq k' j (get_lt h3) (get_lt hx) (by omega)
        rw [List.getElem?_eq_getElem (get_lt h3)] at h3
        rw [List.getElem?_eq_getElem (get_lt hx)] at hx
        injection h3 with h3
        injection hx with hx
        rwa [h3, hx] at this
/-- Something is left to choose. -/
theorem PickP.some (hq : SortedI q) (hc : Chosen s q o) (h : PickP s q o q.length b) (hlt : o.length < q.length) : ∃ (k : Nat) (x : IDE), b = (k : Int) ∧ q[k]? = some x ∧ x ∉ o ∧ Chosen s q (o ++ [x]) := by
  rcases h with ⟨h1, h2⟩ | ⟨k, x, h1, h2, h3, h4, h5⟩
  · have := nodup_len (a := q) (b := o) hq.nodup (fun x hx => by
      obtain ⟨j, hj⟩ := List.getElem?_of_mem hx
      exact h2 j x (get_lt hj) hj)
    omega
  · refine ⟨k, x, h1, h3, h4, hc.push (List.mem_of_getElem? h3) h4 fun z hz hzo hzx => ?_⟩
    obtain ⟨j, hj⟩ := List.getElem?_of_mem hz
    exact h5 j z (get_lt hj) hj hzo hzx
end
def RefLarL (L : List NodeC) (roots : List IDE) (n : Int) (o : List IDE) : Prop := ∃ q, ReachL L roots q ∧ Chosen (sizeI L roots) q o ∧ (o.length : Int) = min (max n 0) (q.length : Int)
theorem RefLarL.eq {L : List NodeC} {roots : List IDE} {n : Int} {o a : List IDE} (h : RefLarL L roots n o) (h' : LarL L roots n a) : a = o := by
  obtain ⟨q, hq, hc, hl⟩ := h
  obtain ⟨q', T, hq', hp, hT, rfl⟩ := h'
  have e : q' = q := sortedI_unique hq'.1 hq.1 fun x => (hq'.2 x).trans (hq.2 x).symm
  subst e
  have := chosen_take hT (fun x => hp.mem_iff) hc.pw hc.sub (fun x hx hxo y hy => hc.rest x hx hxo y hy)
  rw [this, show (min (max n 0) (q'.length : Int)).toNat = o.length by omega]
/-! ### Lists of truth values -/
def BlC (b : Bool) : List Value := [.bool b]
theorem BlC.enc : Enc BlC 1 := ⟨fun _ => rfl, fun x u hu => by simp only [BlC, List.mem_singleton] at hu; rw [hu]; rfl, by decide⟩
theorem blT : ElemT Try.prog 76 4 1 1 := ElemT.mk' (z := .bool false) Try.underlying76 (by kernel_rfl) rfl
theorem make_bools (w : World) (N : Nat) (hN : N ≤ 1000000) : (Instr.makeSlice 76 (.int .i64 N) (.int .i64 N)).run Try.prog w = .ok (.slice (some ⟨w.heap.size, 0, none⟩) N N) (w.alloc (.cells (List.replicate N (Value.bool false)).toArray 4)) := by
  obtain ⟨i, z, h1, h2, h3, h4, h5⟩ := blT.info
  have h := run_make (P := Try.prog) w 76 4 i z blT.slice h1 h2 .i64 .i64 (N : Int) (N : Int) (by omega) (by omega) (by rw [h4]; omega) (by omega)
  have hz : (Try.prog.info? 4).bind (·.zero) = some (.bool false) := by kernel_rfl
  rw [h1] at hz
  have hz2 : z = .bool false := by
    have : i.zero = some (.bool false) := hz
    rw [h2] at this; injection this
  rw [Int.toNat_natCast, h3, Nat.mul_one, hz2] at h
  have e : madeCells (Value.bool false).cells N = (List.replicate N (Value.bool false)).toArray := by
    apply Array.ext
    · simp [madeCells]
    · intro j h6 h7
      simp [madeCells, Value.cells, Nat.mod_one]
  rw [e] at h
  exact h
theorem bools_own {B g n : Nat} {w : World} (hg : w.heap[g]? = some (.cells (List.replicate n (Value.bool false)).toArray 4 (0, 0))) (hB : B ≤ g) (hn : n ≤ 1000000) : Own BlC 1 4 B w (.slice (some ⟨g, 0, none⟩) n n) (List.replicate n false) := by
  have hf : (List.replicate n false).flatMap BlC = List.replicate n (Value.bool false) := by
    clear hg hn
    induction n with
    | zero => rfl
    | succ n ih => rw [List.replicate_succ, List.flatMap_cons, ih, List.replicate_succ]; rfl
  have hr : (List.replicate n false).length = n := List.length_replicate
  unfold Own World.ownsRow
  rw [hf, hr]
  refine ⟨by simp, .inr ⟨g, n, _, rfl, hB, hg, Nat.le_refl _, by unfold maxLen; omega, by simp, ?_⟩⟩
  simp
/-- Which were chosen. -/
def usedL (q o : List IDE) : List Bool := q.map fun x => decide (x ∈ o)
theorem usedL_nil {q : List IDE} : usedL q [] = List.replicate q.length false := by
  unfold usedL
  induction q with
  | nil => rfl
  | cons x q ih => rw [List.map_cons, List.length_cons, List.replicate_succ, ih]; rfl
theorem usedL_get {q o : List IDE} {i : Nat} {x : IDE} (h : q[i]? = some x) : (usedL q o)[i]? = some (decide (x ∈ o)) := by unfold usedL; rw [List.getElem?_map, h]; rfl
theorem usedL_set {q o : List IDE} {k : Nat} {x : IDE} (hn : q.Nodup) (h : q[k]? = some x) : (usedL q o).set k true = usedL q (o ++ [x]) := by
  apply List.ext_getElem?
  intro j
  rw [List.getElem?_set]
  by_cases e : k = j
  · subst e
    rw [if_pos rfl, if_pos (by unfold usedL; rw [List.length_map]; exact get_lt h), usedL_get h]
    simp
  · rw [if_neg e]
    unfold usedL
    rw [List.getElem?_map, List.getElem?_map]
    cases hj : q[j]? with
    | none => rfl
    | some y =>
      have hne : y ≠ x := fun e' => by subst e'; exact e (nodup_idx hn h hj)
      simp [hne]
/-- What the reference's Largest answers. -/
def RefLarP (L : List NodeC) (roots : List IDE) (n : Int) (w : World) (r : Ending) (w' : World) : Prop :=
  ∃ (o : List IDE) (A : Option Addr) (c : Nat), r = .returned (.slice A o.length c) ∧ Hid (RefLarL L roots n o) ∧ SlAt IDE.cells 2 w' A o ∧ Below w.heap.size w w'
set_option maxRecDepth 100000 in
set_option maxHeartbeats 8000000 in
theorem refLarg_any (A : Option Addr) (c : Nat) (l : List NodeE) (n : Int) (RA : Option Addr) (rc : Nat) (roots : List IDE) (w : World) (H : NodesAt w A l) (hR : SlAt IDE.cells 2 w RA roots) (hl : l.length ≤ 10000) (hf : ∀ n ∈ l, n.fields.length ≤ 10000) (hr : roots.length ≤ 10000) (HT : ∃ ids0 d0, TreeOk (conL l) roots ids0 d0) :
    Calls Try.prog 19 #[.agg #[.slice A l.length c], .int .i64 n, .slice RA roots.length rc] w (RefLarP (conL l) roots n w) := by
  have HSz : ∀ u [Later w u], Calls Try.prog 16 #[.agg #[.slice A l.length c], .slice RA roots.length rc] u (SizP (conL l) roots u) := fun u i => refSizes_any A c l RA rc roots u (H.below i.below) (hR.below i.below) hl hf hr HT
  have hll : (conL l).length ≤ 10000 := by unfold conL; rw [List.length_map]; exact hl
  clear HT
  go_enter Try.func19, Try.ntmps19
  go_upto_region 1 with fail
  refine wp_name ?_
  intro w1 hw1
  obtain ⟨B0, l1⟩ := box1 hw1
  clear hw1
  go_upto_region 2 with (go_at_call 16; refine (HSz _).mono ?_; intro r w2 hh; obtain ⟨q, s, QA, QC, SA, SC, rfl, hq, hoq, hos, hap, hb2⟩ := hh; have l2 := later hb2)
  have hql : q.length ≤ 10000 := by
    have := reach_len (l := conL l) hq.out.1.1.nodup (fun z hz => firstN_ids.1 ((hq.out.1.2 z).1 hz).node)
    omega
  have hS2 := (hoq.at_ IDE.enc).2.2
  have hZ2 := (hos.at_ I64.enc).2.2
  have hmk := fun u : World => make_bools u q.length (by omega)
  have lw2 : Later w w2 := by infer_instance
  refine wp_region_held_drew (S := fun w' => ∀ b [Later b w2], Later b w') (by kernel_rfl) (fun b _ => inferInstance) (fun hHeld => ?_)
  have hdr : ∀ b [Later b w2], Later b w2.drew := fun b _ => inferInstance
  obtain ⟨wz, hwz⟩ : ∃ z, z = w2.drew := ⟨_, rfl⟩
  rw [← hwz] at hHeld hdr ⊢
  clear hwz
  have lz := hdr w2
  refine wpAnyH_take (i := 1) (oi := _) (v := ?_) rfl (by kernel_rfl) (by kernel_rfl) (by kernel_rfl) (fun _ _ _ h => h) (Or.inl ⟨by rfl, ?_⟩) (by assumption) ?_
  rotate_left 1
  · (intro wy hSw; (try dsimp only at hSw); go_simp; try with_reducible rfl)
  (try simp only [Act.put, List.getElem_toArray, List.getElem_cons_succ, List.getElem_cons_zero, List.setIfInBounds_toArray, List.set_cons_zero, List.set_cons_succ])
  refine wpAnyH_take (i := 2) (oi := _) (v := ?_) rfl (by kernel_rfl) (by kernel_rfl) (by kernel_rfl) (fun _ _ _ h => h) (Or.inl ⟨by rfl, ?_⟩) (by assumption) ?_
  rotate_left 1
  · (intro wy hSw; (try dsimp only at hSw); go_simp; try with_reducible rfl)
  (try simp only [Act.put, List.getElem_toArray, List.getElem_cons_succ, List.getElem_cons_zero, List.setIfInBounds_toArray, List.set_cons_zero, List.set_cons_succ])
  apply by_final2
  · intro final
    refine wpAnyH_ready (rs := [0, 3]) (by kernel_rfl) (by simp) ?_
    refine AllReadyH.cons (o := _) rfl ?_ (AllReadyH.cons (o := _) rfl ?_ AllReadyH.nil)
    · intro K9 hK9
      go_simp
      refine hK9.out _ _ (fun b _ => inferInstance) (fun hHeld => ?_)
      clear hK9 K9
      (try simp only [Act.put, List.getElem_toArray, List.getElem_cons_succ, List.getElem_cons_zero, List.setIfInBounds_toArray, List.set_cons_zero, List.set_cons_succ])
      refine wpAnyH_take (i := 4) (oi := _) (v := ?_) rfl (by kernel_rfl) (by kernel_rfl) (by kernel_rfl) (fun _ _ _ h => h) (Or.inl ⟨by rfl, ?_⟩) (by assumption) ?_
      rotate_left 1
      · (intro wy hSw; (try dsimp only at hSw); go_simp; try with_reducible rfl)
      (try simp only [Act.put, List.getElem_toArray, List.getElem_cons_succ, List.getElem_cons_zero, List.setIfInBounds_toArray, List.set_cons_zero, List.set_cons_succ])
      refine wpAnyH_ready (rs := [3]) (by kernel_rfl) (by simp) ?_
      refine AllReadyH.cons (o := _) rfl ?_ AllReadyH.nil
      intro K9 hK9
      go_simp
      refine hK9.out _ _ (fun b _ => inferInstance) (fun hHeld2 => ?_)
      clear hK9 K9
      (try simp only [Act.put, List.getElem_toArray, List.getElem_cons_succ, List.getElem_cons_zero, List.setIfInBounds_toArray, List.set_cons_zero, List.set_cons_succ])
      refine wpAnyH_cast (l' := #[true, true, true, true, true, false]) (by kernel_rfl) ?_
      obtain ⟨wa, hwa⟩ : ∃ z, z = wz.alloc (.cells #[] 46 (0, 0)) := ⟨_, rfl⟩
      rw [← hwa]
      have ka : wa.heap[wz.heap.size]? = some (.cells #[] 46 (0, 0)) := by rw [hwa]; exact heap_alloc_new _ _
      have hba : Below wz.heap.size wz wa := by rw [hwa]; exact (by repeat (first | with_reducible exact Below.refl _ _ | (with_reducible refine Below.drew ?_) | (with_reducible refine below_drewN ?_ _) | (with_reducible refine Below.alloc ?_ ?_ _; rotate_left; (first | omega | (simp <;> omega))) | (with_reducible refine Below.setCell ?_ ?_ _; rotate_left; (first | omega | (simp <;> omega)))))
      have hza : wa.heap.size = wz.heap.size + 1 := by rw [hwa]; simp
      rw [← hza]
      clear hwa hza
      obtain ⟨wn, hwn⟩ : ∃ z, z = wa.alloc (.cells (Array.replicate q.length (Value.bool false)) 4 (0, 0)) := ⟨_, rfl⟩
      rw [← hwn]
      have kb : wn.heap[wa.heap.size]? = some (.cells (Array.replicate q.length (Value.bool false)) 4 (0, 0)) := by rw [hwn]; exact heap_alloc_new _ _
      have hbn : Below wa.heap.size wa wn := by rw [hwn]; exact (by repeat (first | with_reducible exact Below.refl _ _ | (with_reducible refine Below.drew ?_) | (with_reducible refine below_drewN ?_ _) | (with_reducible refine Below.alloc ?_ ?_ _; rotate_left; (first | omega | (simp <;> omega))) | (with_reducible refine Below.setCell ?_ ?_ _; rotate_left; (first | omega | (simp <;> omega)))))
      replace ka := blk_below ka hbn
      clear hwn hHeld hHeld2
      have lwn : Later w2 wn := ⟨lz.below.trans ((hba.mono lz.below.size).trans (hbn.mono (Nat.le_trans lz.below.size hba.size)))⟩
      have hg1 := lz.below.size
      have hg2 := Nat.le_trans hg1 hba.size
      clear hba hbn
      generalize wz.heap.size = gO at ka hg1 ⊢
      generalize wa.heap.size = gU at kb hg2 ⊢
      clear wa
      revert hg2
      revert hg1
      revert lwn
      revert kb
      revert ka
      revert wn
      revert gU
      revert gO
      exact final ()
    · intro K9 hK9
      go_simp
      refine hK9.out _ _ (fun b _ => inferInstance) (fun hHeld => ?_)
      clear hK9 K9
      (try simp only [Act.put, List.getElem_toArray, List.getElem_cons_succ, List.getElem_cons_zero, List.setIfInBounds_toArray, List.set_cons_zero, List.set_cons_succ])
      refine wpAnyH_ready (rs := [0]) (by kernel_rfl) (by simp) ?_
      refine AllReadyH.cons (o := _) rfl ?_ AllReadyH.nil
      intro K9 hK9
      go_simp
      refine hK9.out _ _ (fun b _ => inferInstance) (fun hHeld2 => ?_)
      clear hK9 K9
      (try simp only [Act.put, List.getElem_toArray, List.getElem_cons_succ, List.getElem_cons_zero, List.setIfInBounds_toArray, List.set_cons_zero, List.set_cons_succ])
      refine wpAnyH_take (i := 4) (oi := _) (v := ?_) rfl (by kernel_rfl) (by kernel_rfl) (by kernel_rfl) (fun _ _ _ h => h) (Or.inl ⟨by rfl, ?_⟩) (by assumption) ?_
      rotate_left 1
      · (intro wy hSw; (try dsimp only at hSw); go_simp; try with_reducible rfl)
      (try simp only [Act.put, List.getElem_toArray, List.getElem_cons_succ, List.getElem_cons_zero, List.setIfInBounds_toArray, List.set_cons_zero, List.set_cons_succ])
      refine wpAnyH_cast (l' := #[true, true, true, true, true, false]) (by kernel_rfl) ?_
      obtain ⟨wa, hwa⟩ : ∃ z, z = wz.alloc (.cells (Array.replicate q.length (Value.bool false)) 4 (0, 0)) := ⟨_, rfl⟩
      rw [← hwa]
      have kb : wa.heap[wz.heap.size]? = some (.cells (Array.replicate q.length (Value.bool false)) 4 (0, 0)) := by rw [hwa]; exact heap_alloc_new _ _
      have hba : Below wz.heap.size wz wa := by rw [hwa]; exact (by repeat (first | with_reducible exact Below.refl _ _ | (with_reducible refine Below.drew ?_) | (with_reducible refine below_drewN ?_ _) | (with_reducible refine Below.alloc ?_ ?_ _; rotate_left; (first | omega | (simp <;> omega))) | (with_reducible refine Below.setCell ?_ ?_ _; rotate_left; (first | omega | (simp <;> omega)))))
      have hza : wa.heap.size = wz.heap.size + 1 := by rw [hwa]; simp
      rw [← hza]
      clear hwa hza
      obtain ⟨wn, hwn⟩ : ∃ z, z = wa.alloc (.cells #[] 46 (0, 0)) := ⟨_, rfl⟩
      rw [← hwn]
      have ka : wn.heap[wa.heap.size]? = some (.cells #[] 46 (0, 0)) := by rw [hwn]; exact heap_alloc_new _ _
      have hbn : Below wa.heap.size wa wn := by rw [hwn]; exact (by repeat (first | with_reducible exact Below.refl _ _ | (with_reducible refine Below.drew ?_) | (with_reducible refine below_drewN ?_ _) | (with_reducible refine Below.alloc ?_ ?_ _; rotate_left; (first | omega | (simp <;> omega))) | (with_reducible refine Below.setCell ?_ ?_ _; rotate_left; (first | omega | (simp <;> omega)))))
      replace kb := blk_below kb hbn
      clear hwn hHeld hHeld2
      have lwn : Later w2 wn := ⟨lz.below.trans ((hba.mono lz.below.size).trans (hbn.mono (Nat.le_trans lz.below.size hba.size)))⟩
      have hg2 := lz.below.size
      have hg1 := Nat.le_trans hg2 hba.size
      clear hba hbn
      generalize wz.heap.size = gU at kb hg2 ⊢
      generalize wa.heap.size = gO at ka hg1 ⊢
      clear wa
      revert hg2
      revert hg1
      revert lwn
      revert kb
      revert ka
      revert wn
      revert gU
      revert gO
      exact final ()
  · clear hHeld hdr lz wz
    intro gO gU wz ka kb lz hg1 hg2
    have hHeld : ∀ b [Later b w2], Later b wz := fun b i => i.trans lz
    refine wpAnyH_take (i := 5) (oi := _) (v := ?_) rfl (by kernel_rfl) (by kernel_rfl) (by kernel_rfl) (fun _ _ _ h => h) (Or.inl ⟨by rfl, ?_⟩) (by assumption) ?_
    rotate_left 1
    · (intro wy hSw; (try dsimp only at hSw); go_simp; try with_reducible rfl)
    (try simp only [Act.put, List.getElem_toArray, List.getElem_cons_succ, List.getElem_cons_zero, List.setIfInBounds_toArray, List.set_cons_zero, List.set_cons_succ])
    refine wpAnyH_done (by kernel_rfl) ?_ _
    have hO : Own IDE.cells 2 46 w2.heap.size wz (.slice (some ⟨gO, 0, none⟩) 0 0) ([] : List IDE) := Own.empty_blk hg1 ka
    have hU : Own BlC 1 4 w2.heap.size wz (.slice (some ⟨gU, 0, none⟩) q.length q.length) (usedL q []) := by rw [usedL_nil]; exact bools_own (by rw [List.toArray_replicate]; exact kb) hg2 (by omega)
    clear ka kb hHeld hmk
    have hbz : Below w2.heap.size w2 wz := lz.below
    clear lz
    have lq := lw2.below
    go_upto_region 3 with fail
    go_loopw [9] (fun ov wr => ∃ (o : List IDE) (OA : Option Addr) (OC : Nat), ov = .slice OA o.length OC ∧ Hid (Chosen (sizeI (conL l) roots) q o) ∧ (o.length : Int) ≤ max n 0 ∧ o.length ≤ q.length ∧ Own IDE.cells 2 46 w2.heap.size wr (.slice OA o.length OC) o ∧ Own BlC 1 4 w2.heap.size wr (.slice (some ⟨gU, 0, none⟩) q.length q.length) (usedL q o) ∧ Below w2.heap.size w2 wr) (fun ov _ => q.length - lenV ov)
    case atStart => exact ⟨[], _, _, rfl, hide Chosen.nil, by simp; omega, by simp, hO, hU, hbz⟩
    case round =>
      obtain ⟨o, OA, OC, rfl, hch, hon, hoq1, hoo, hou, hbr⟩ := hrel
      have lr := later hbr
      have lrr : Later wr wr := Later.refl
      by_cases hcn : (o.length : Int) < n
      · by_cases hcq : o.length < q.length
        · have hcqi : (o.length : Int) < (q.length : Int) := by omega
          obtain ⟨wO, rfl⟩ : ∃ z, z = wr := ⟨_, rfl⟩
          go_upto_region 6 with fail
          go_loopw [11, 12] (fun bv iv wr => ∃ (i : Nat) (b : Int), i ≤ q.length ∧ iv = .int .i64 i ∧ bv = .int .i64 b ∧ Hid (PickP (sizeI (conL l) roots) q o i b) ∧ Below wO.heap.size wO wr) (fun _ iv _ => q.length - (intOf iv).toNat)
          case atStart => exact ⟨0, -1, by omega, rfl, rfl, hide PickP.zero, Below.refl _ _⟩
          case round =>
            obtain ⟨i, b, hi, rfl, rfl, hpk, hbi⟩ := hrel
            have li := later hbi
            have lrr : Later wr wr := Later.refl
            by_cases hlt : i < q.length
            · have hii : (i : Int) < (q.length : Int) := by omega
              obtain ⟨x, hx⟩ : ∃ x, q[i]? = some x := ⟨_, List.getElem?_eq_getElem hlt⟩
              have Hx := hide hx
              have hui := hide (hou.below hbi)
              have hcu : ∀ u [Later wr u], u.cell? ⟨gU, i, none⟩ = some (.bool (decide (x ∈ o))) := Later.cell (by have := hui.out.cell BlC.enc (usedL_get (o := o) hx) (j := 0) rfl; simpa using this)
              obtain ⟨sx, hsx⟩ : ∃ z, z = sizeI (conL l) roots x := ⟨_, rfl⟩
              obtain ⟨bs, os, rfl, S1⟩ := int_at hZ2 (k := i) (x := sx) (by rw [hsx]; exact hq.out.2.1.get hx)
              have Hsx := hide hsx
              clear hx hsx
              cases hmem : decide (x ∈ o) with
              | true =>
                have Hpn := hide (hpk.out.used Hx.out (of_decide_eq_true hmem))
                rw [hmem] at hcu
                clear hmem
                go_upto_region 8 with fail
                (refine wp_region_after (by kernel_rfl) (by kernel_rfl) ?_
                 repeat (any_goals (first | go_big_quiet_skip | (go_big_quiet_want; go_big_quiet_op; first | go_big_quiet_on | go_big_quiet_call (fail)) | quiet_step (fail) | (refine wpQuiet_step (fun K hK => ?_); go_simp; split <;> (refine hK _ ?_; clear hK K))))
                 all_goals (refine wpQuiet_nil ?_; intro _ hw'; obtain ⟨u', hw''⟩ := hw'; subst hw''; obtain ⟨wd, hbd⟩ := u'; simp only [After.val_mk]))
                have ld := later hbd
                go_wp2_with fail
                go_roundw
                case rel => exact ⟨i + 1, b, by omega, by go_num, rfl, Hpn, hbi.trans (hbd.mono hbi.size)⟩
                case measure => simp [intOf]; omega
              | false =>
                have Hxo := hide (of_decide_eq_false hmem)
                rw [hmem] at hcu
                clear hmem
                rcases hpk.out with ⟨hb1, _⟩ | ⟨k, y, hb1, hki, hk, _, _⟩
                · subst hb1
                  have Hpn := hide (hpk.out.first Hx.out Hxo.out)
                  go_upto_region 8 with fail
                  (refine wp_region_after (by kernel_rfl) (by kernel_rfl) ?_
                   repeat (any_goals (first | go_big_quiet_skip | (go_big_quiet_want; go_big_quiet_op; first | go_big_quiet_on | go_big_quiet_call (fail)) | quiet_step (fail) | (refine wpQuiet_step (fun K hK => ?_); go_simp; split <;> (refine hK _ ?_; clear hK K))))
                   all_goals (refine wpQuiet_nil ?_; intro _ hw'; obtain ⟨u', hw''⟩ := hw'; subst hw''; obtain ⟨wd, hbd⟩ := u'; simp only [After.val_mk]))
                  have ld := later hbd
                  go_wp2_with fail
                  go_roundw
                  case rel => exact ⟨i + 1, (i : Int), by omega, by go_num, rfl, Hpn, hbi.trans (hbd.mono hbi.size)⟩
                  case measure => simp [intOf]; omega
                · subst hb1
                  have Hk := hide hk
                  obtain ⟨sy, hsy⟩ : ∃ z, z = sizeI (conL l) roots y := ⟨_, rfl⟩
                  obtain ⟨bs', os', es, S2⟩ := int_at hZ2 (k := k) (x := sy) (by rw [hsy]; exact hq.out.2.1.get hk)
                  injection es with es
                  injection es with es es'
                  subst es es'
                  have Hsy := hide hsy
                  have hkki : (k : Int) < (q.length : Int) := by omega
                  clear hk hsy
                  by_cases hlt2 : sy < sx
                  · have Hpn := hide (hpk.out.better Hx.out Hxo.out Hk.out (by rw [← Hsx.out, ← Hsy.out]; exact hlt2))
                    have hd2 : decide (sy < sx) = true := by simpa using hlt2
                    go_upto_region 8 with fail
                    (refine wp_region_after (by kernel_rfl) (by kernel_rfl) ?_
                     repeat (any_goals (first | go_big_quiet_skip | (go_big_quiet_want; go_big_quiet_op; first | go_big_quiet_on | go_big_quiet_call (fail)) | quiet_step (fail) | (refine wpQuiet_step (fun K hK => ?_); go_simp; split <;> (refine hK _ ?_; clear hK K))))
                     all_goals (refine wpQuiet_nil ?_; intro _ hw'; obtain ⟨u', hw''⟩ := hw'; subst hw''; obtain ⟨wd, hbd⟩ := u'; simp only [After.val_mk]))
                    have ld := later hbd
                    go_wp2_with fail
                    go_roundw
                    case rel => exact ⟨i + 1, (i : Int), by omega, by go_num, rfl, Hpn, hbi.trans (hbd.mono hbi.size)⟩
                    case measure => simp [intOf]; omega
                  · have Hpn := hide (hpk.out.worse hq.out.1.1 Hx.out Hk.out (by rw [← Hsx.out, ← Hsy.out]; exact hlt2))
                    have hd2 : decide (sy < sx) = false := by simpa using hlt2
                    go_upto_region 8 with fail
                    (refine wp_region_after (by kernel_rfl) (by kernel_rfl) ?_
                     repeat (any_goals (first | go_big_quiet_skip | (go_big_quiet_want; go_big_quiet_op; first | go_big_quiet_on | go_big_quiet_call (fail)) | quiet_step (fail) | (refine wpQuiet_step (fun K hK => ?_); go_simp; split <;> (refine hK _ ?_; clear hK K))))
                     all_goals (refine wpQuiet_nil ?_; intro _ hw'; obtain ⟨u', hw''⟩ := hw'; subst hw''; obtain ⟨wd, hbd⟩ := u'; simp only [After.val_mk]))
                    have ld := later hbd
                    go_wp2_with fail
                    go_roundw
                    case rel => exact ⟨i + 1, (k : Int), by omega, by go_num, rfl, Hpn, hbi.trans (hbd.mono hbi.size)⟩
                    case measure => simp [intOf]; omega
            · have hii : i = q.length := by omega
              subst hii
              obtain ⟨k, x, hbk, hk, hxo, hch'⟩ := hpk.out.some hq.out.1.1 hch.out hcq
              subst hbk
              have Hch := hide hch'
              have Hus := hide (usedL_set (o := o) hq.out.1.1.nodup hk)
              have hkl := get_lt hk
              have hkki : (k : Int) < (q.length : Int) := by omega
              have oui := hou.below hbi
              have ooi := hoo.below hbi
              have hug := usedL_get (o := o) hk
              obtain ⟨bq, oq, rfl, X1, X2⟩ := id_at hS2 hk
              have cU : ∀ u [Later wr u], u.cell? ⟨gU, k, none⟩ = some (.bool (decide (x ∈ o))) := Later.cell (by have := oui.cell BlC.enc hug (j := 0) rfl; simpa using this)
              have fU := oui.free k
              obtain ⟨csU, htU⟩ := own_type oui (g := gU) rfl
              have hoffU := own_off ooi htU (by decide)
              have hbri : Below w2.heap.size w2 wr := hbr.trans (hbi.mono hbr.size)
              clear hk hch' hxo
              go_upto_region 11 with fail
              refine wp_name ?_
              intro w8 hw8
              have ou8 := oui.store BlC.enc (k := k) (j := 0) (x := decide (x ∈ o)) (x' := true) (u := .bool true) hug (by omega) rfl
              rw [Nat.mul_one, Nat.add_zero, hw8, Hus.out] at ou8
              have oo8 := ooi.far (p := ⟨gU, k, none⟩) hoffU (.bool true)
              rw [hw8] at oo8
              have hb8 : Below w2.heap.size w2 w8 := by rw [← hw8]; exact hbri.setCell (p := ⟨gU, k, none⟩) hg2 _
              have l8 := later hb8
              have l88 : Later w8 w8 := Later.refl
              have hz8 := hb8.size
              clear hw8 cU fU htU hoffU oui ooi hug
              obtain ⟨x1, x2⟩ := x
              dsimp only at X1 X2
              go_upto_region 12 with (at_builtin; refine wpList_app1 rfl (.tmp 64) (.tmp 69) rfl IDE.enc idTL ⟨x1, x2⟩ rfl rfl rfl (oo8.later _) (by rfl) (by omega) (by unfold maxLen; omega) (Nat.le_trans hz8 (show Below w8.heap.size w8 _ from below_of).size) ?_; intro A5 c5 w9 ho5 hm5 hb5 hg5 hat5)
              have ou9 := own_grownOwn oo8 hg5 ou8 (by decide)
              have hln := hide (show (o ++ [(⟨x1, x2⟩ : IDE)]).length = o.length + 1 by simp)
              have hcn' : ((o.length + 1 : Nat) : Int) ≤ max n 0 := by omega
              go_roundw
              case rel => exact ⟨o ++ [⟨x1, x2⟩], A5, c5, by rw [hln.out], Hch, by rw [hln.out]; exact hcn', by rw [hln.out]; omega, by rw [hln.out]; exact ho5, ou9, hb8.trans hb5⟩
              case measure => simp [lenV]; omega
        · have hcqi : decide ((o.length : Int) < (q.length : Int)) = false := by simp; omega
          have hRL : RefLarL (conL l) roots n o := ⟨q, hq.out.1, hch.out, by omega⟩
          have HRL := hide hRL
          clear hRL
          go_wp2_with fail
          go_ret
          exact ⟨o, OA, OC, rfl, HRL, (hoo.at_ IDE.enc).2.2, lq.trans (hbr.mono lq.size)⟩
      · have hcni : decide ((o.length : Int) < n) = false := by simp; omega
        have hRL : RefLarL (conL l) roots n o := ⟨q, hq.out.1, hch.out, by omega⟩
        have HRL := hide hRL
        clear hRL
        go_wp2_with fail
        go_ret
        exact ⟨o, OA, OC, rfl, HRL, (hoo.at_ IDE.enc).2.2, lq.trans (hbr.mono lq.size)⟩
end Go.Proofs.Ytffnogjgnpbjlaa

/-
  Contracts of the functions of this seat that each theorem names: what a call returns, and that it writes nothing that was there before. The conditions stand in each theorem.
-/
import Derived.Test.YthigjlllhnajbaaC25LawBuilds
import Derived.Test.YthigjlllhnajbaaC25Decode
import Derived.Test.YthigjlllhnajbaaC25DecPlain2
import Derived.Test.YthigjlllhnajbaaC25RefEncode
import Derived.Test.YthigjlllhnajbaaWireSame
namespace Go.Proofs.Ythigjlllhnajbaa
open Go.RowKit Go.WideShapes Go.ChangeShapes
theorem uintL_bytes {n : Int} (h : n < 18446744073709551616) : Bytes (uintL n) := by
  intro x hx
  have h8 : (digs n.toNat).length ≤ 8 := digs_len (by omega)
  rcases List.mem_cons.1 hx with rfl | hx
  · omega
  · exact digs_range x hx
theorem bytes_app {a b : List Int} (ha : Bytes a) (hb : Bytes b) : Bytes (a ++ b) := fun x hx => (List.mem_append.1 hx).elim (ha x) (hb x)
theorem intL_bytes {n : Int} (h : I64r n) : Bytes (intL n) := uintL_bytes (zig_range h.1 h.2).2
theorem boolL_bytes (b : Bool) : Bytes (boolL b) := by intro x hx; cases b <;> simp [boolL] at hx <;> omega
theorem encE_bytes {e : ListedE} (h : e.Rng) : Bytes (encE e) := bytes_app (bytes_app (uintL_bytes h.n1) (intL_bytes ⟨h.d0, h.d1⟩)) (boolL_bytes _)
theorem encL_bytes {R S C : Int} {es : List ListedE} (hR : I64r R) (hS : I64r S) (hC : I64r C) (h : ∀ e ∈ es, e.Rng) (hl : es.length ≤ 1024) : Bytes (encL R S C es) := by
  refine bytes_app (bytes_app (bytes_app (bytes_app (intL_bytes hR) (intL_bytes hS)) (intL_bytes hC)) (uintL_bytes (by omega))) ?_
  intro x hx
  obtain ⟨e, he, hx⟩ := List.mem_flatMap.1 hx
  exact encE_bytes (h e he) x hx
theorem encL_len {R S C : Int} {es : List ListedE} (hR : I64r R) (hS : I64r S) (hC : I64r C) (h : ∀ e ∈ es, e.Rng) (hl : es.length ≤ 1024) : (encL R S C es).length ≤ 100000 := by
  have h1 := encH_len hR hS hC (n := es.length) (by omega)
  have h2 := flat_len h
  unfold encL
  rw [List.length_append]; omega
theorem encode_q (R S C : Int) (sA : Option Addr) (sC : Nat) (es : List ListedE) (w : World) (hs : SlAt ListedE.cells 3 w sA es) (hl : es.length ≤ 10000000) (hR : I64r R) (hS : I64r S) (hC : I64r C) (hr : ∀ e ∈ es, e.Rng) :
    Calls Try.prog 28 #[.agg #[.int .i64 R, .int .i64 S, .int .i64 C, .slice sA es.length sC]] w (BPost (encL R S C es) w) :=
  (encode_any' R S C sA sC es w hs hl hR hS hC hr).mono fun r w' ⟨A, c, h1, h2, h3⟩ => ⟨_, A, c, rfl, h1, (h2.at_ U8.enc).2.2, h3⟩
theorem dec_rng {b : List Int} (hb : Bytes b) {R S C e : Int} {es : List ListedE} (hd : decL b = ((R, S, C), es, e)) : I64r R ∧ I64r S ∧ I64r C ∧ (∀ x ∈ es, x.Rng) ∧ es.length ≤ 1024 := by
  have hu : ∀ {s : St}, Bytes s.1 → Bytes (rdU s).2.1 := by
    intro s hs
    unfold rdU
    split
    · split
      · exact restU_bytes hs
      · intro x hx; cases hx
    · exact hs
  have hB : ∀ {s : St}, Bytes s.1 → Bytes (rdB s).2.1 := by
    intro s hs
    unfold rdB
    split
    · split
      · exact hs.drop 1
      · intro x hx; cases hx
    · exact hs
  have y0 : Bytes ((b, 0) : St).1 := hb
  have y1 := hu y0
  have y2 := hu y1
  have y3 : Bytes (rdH b).2.1 := hu y2
  have hc1 : Bytes (rdN b).2.1 := by
    unfold rdN rdC
    split
    · split
      · exact hu y3
      · intro x hx; cases hx
    · exact hu y3
  have hes : ∀ (k : Nat) {s : St}, Bytes s.1 → Bytes (rdEs k s).2.1 ∧ ∀ x ∈ (rdEs k s).1, x.Rng := by
    intro k
    induction k with
    | zero => intro s hs; exact ⟨hs, fun x hx => by cases hx⟩
    | succ k ih =>
      intro s hs
      obtain ⟨i1, i2⟩ := ih hs
      refine ⟨hB (hu (hu i1)), fun x hx => ?_⟩
      rcases List.mem_append.1 hx with h | h
      · exact i2 x h
      · rw [List.mem_singleton] at h; subst h
        have r1 := rdU_range (st := (rdEs k s).2) i1
        have r2 := rdU_range (st := (rdU (rdEs k s).2).2) (hu i1)
        have r3 := unzig_range r2.1 r2.2
        exact ⟨r1.1, r1.2, r3.1, r3.2⟩
  have z0 : I64r 0 := ⟨by decide, by decide⟩
  have a0 := rdU_range (st := (b, 0)) y0
  have a1 := rdU_range (st := (rdU (b, 0)).2) y1
  have a2 := rdU_range (st := (rdU (rdU (b, 0)).2).2) y2
  have cr := rdC_range (m := 1024) (st := (rdH b).2) (by decide) y3
  unfold decL at hd
  split at hd
  · split at hd
    · obtain ⟨h1, h2⟩ := Prod.mk.inj hd
      obtain ⟨h2, h3⟩ := Prod.mk.inj h2
      have h1' : (unzig (rdU (b, 0)).1, unzig (rdU (rdU (b, 0)).2).1, unzig (rdU (rdU (rdU (b, 0)).2).2).1) = (R, S, C) := h1
      obtain ⟨hR, hS⟩ := Prod.mk.inj h1'
      obtain ⟨hS, hC⟩ := Prod.mk.inj hS
      rw [← hR, ← hS, ← hC, ← h2]
      refine ⟨unzig_range a0.1 a0.2, unzig_range a1.1 a1.2, unzig_range a2.1 a2.2, (hes _ hc1).2, ?_⟩
      have hl : (rdL b).1.length = (rdN b).1.toNat := rdEs_len _ _
      rw [hl]
      have : (rdN b).1 ≤ 1024 := cr.2
      omega
    · obtain ⟨h1, h2⟩ := Prod.mk.inj hd
      obtain ⟨h2, h3⟩ := Prod.mk.inj h2
      obtain ⟨hR, hS⟩ := Prod.mk.inj h1
      obtain ⟨hS, hC⟩ := Prod.mk.inj hS
      rw [← hR, ← hS, ← hC, ← h2]
      exact ⟨z0, z0, z0, (fun x hx => by cases hx), by simp⟩
  · obtain ⟨h1, h2⟩ := Prod.mk.inj hd
    obtain ⟨h2, h3⟩ := Prod.mk.inj h2
    obtain ⟨hR, hS⟩ := Prod.mk.inj h1
    obtain ⟨hS, hC⟩ := Prod.mk.inj hS
    rw [← hR, ← hS, ← hC, ← h2]
    exact ⟨z0, z0, z0, (fun x hx => by cases hx), by simp⟩
set_option maxRecDepth 100000 in
set_option maxHeartbeats 4000000 in
theorem lawBytes_any' (R S C : Int) (A : Option Addr) (c : Nat) (es : List ListedE) (bA : Option Addr) (bC : Nat) (b : List Int) (w : World) (hs : SlAt ListedE.cells 3 w A es) (hl : es.length ≤ 1000000000000000) (hR : I64r R) (hS : I64r S) (hC : I64r C) (hr : ∀ e ∈ es, e.Rng) (hbs : SlAt U8.cells 1 w bA b) (hby : Bytes b) (hbl : b.length ≤ 9223372036854775807) :
    Calls Try.prog 10 #[.agg #[.int .i64 R, .int .i64 S, .int .i64 C, .slice A es.length c], .slice bA b.length bC] w fun r w' => r = .returned (.bool true) ∧ Below w.heap.size w w' := by
  have HLs : ∀ u [Later w u], SlAt ListedE.cells 3 u A es := fun u i => hs.below i.below
  have HBs : ∀ u [Later w u], SlAt U8.cells 1 u bA b := fun u i => hbs.below i.below
  go_enter Try.func10, Try.ntmps10
  go_upto_region 1 with fail
  refine wp_name ?_
  intro w0 hw0
  obtain ⟨B0, l0⟩ := box1 hw0
  clear hw0
  go_wp2_with (go_at_call 11; refine (awake_any _).mono ?_)
  rintro r w1 ⟨rfl, hb1⟩
  have l1 := later hb1
  by_cases hn : 30 < es.length
  · have hn' : (30 : Int) < (es.length : Int) := by omega
    go_wp2_with (go_at_call 11; refine (awake_any _).mono ?_)
    rintro r w2 ⟨rfl, hb2⟩
    have l2 := later hb2
    go_wp2_with fail
    go_ret
    exact ⟨rfl, below_of⟩
  have hn' : decide ((30 : Int) < (es.length : Int)) = false := by simp; omega
  by_cases hm : 300 < b.length
  · have hm' : (300 : Int) < (b.length : Int) := by omega
    go_wp2_with (go_at_call 11; refine (awake_any _).mono ?_)
    rintro r w2 ⟨rfl, hb2⟩
    have l2 := later hb2
    go_wp2_with fail
    go_ret
    exact ⟨rfl, below_of⟩
  have hm' : decide ((300 : Int) < (b.length : Int)) = false := by simp; omega
  have hel : es.length ≤ 1024 := by omega
  go_wp2_with (go_at_call 28; refine (encode_q R S C A c es _ (HLs _) (by omega) hR hS hC hr).mono ?_)
  intro r w2 h2
  obtain ⟨q, A1, c1, hq, rfl, hsq, hb2⟩ := h2
  have l2 := later hb2
  have HQ := hide hsq.later
  have hql : q.length ≤ 100000 := by rw [hq.out]; exact encL_len hR hS hC hr hel
  have hqb : Bytes q := by rw [hq.out]; exact encL_bytes hR hS hC hr hel
  go_wp2_with (go_at_call 29; refine (decode_any A1 c1 q _ (HQ.out _) (by omega) hqb).mono ?_)
  intro r w3 h3
  obtain ⟨R', S', C', es', e', A', c', hd, rfl, ho3, hb3⟩ := h3
  have l3 := later hb3
  have HS' := hide (ho3.at_ ListedE.enc).2.2.later
  have hdd := hd.out
  rw [hq.out, dec_enc hR hS hC hr hel] at hdd
  clear ho3 hd
  go_upto_region 5 with fail
  refine wp_name ?_
  intro w4 hw4
  have l4 := later_name' hw4 (inferInstance : Later w3 _)
  have B6 : Boxed w4 w3.heap.size #[.int .i64 R', .int .i64 S', .int .i64 C', .slice A' es'.length c'] 26 := boxed (by rw [← hw4]; simp only [heap_alloc_if, World.size_alloc]; repeat (first | rw [if_pos trivial] | rw [if_neg (by omega)] | rw [if_pos (by omega)]); try rfl)
  have hg6 : w3.heap.size < w4.heap.size := by rw [← hw4]; simp
  clear hw4
  go_wp2_with (go_at_call 31; refine (refEncode_any R S C A c es _ (HLs _) (by omega) hR hS hC hr).mono ?_)
  intro r w5 h5
  obtain ⟨q2, A2, c2, hq2, rfl, S2', hb5⟩ := h5
  have l5 := later hb5
  go_wp2_with (go_at_call 30; refine (same_true A1 c1 q A2 c2 q2 _ (HQ.out _) (S2'.later _) (hide (by rw [hq.out, hq2.out]))).mono ?_)
  rintro r w6 ⟨rfl, hb6⟩
  have l6 := later hb6
  have HV : ∀ u [Later w u], Calls Try.prog 20 #[.agg #[.int .i64 R, .int .i64 S, .int .i64 C, .slice A es.length c]] u fun r w' => r = .returned (.bool (headB R S C es.length && okB es)) ∧ Below u.heap.size u w' := fun u i => refValid_any' R S C A c es u (HLs u) hl
  cases hv : (headB R S C es.length && okB es)
  · simp only [hv] at HV
    have hdd0 : ((R', S', C'), es', e') = ((0, 0, 0), ([] : List ListedE), (11 : Int)) := by rw [← hdd]; simp [hv]
    obtain ⟨⟨rfl, rfl, rfl⟩, rfl, rfl⟩ : (R' = 0 ∧ S' = 0 ∧ C' = 0) ∧ es' = [] ∧ e' = 11 := by simpa using hdd0
    clear hdd hv hdd0
    go_wp2_with (go_at_call 20; refine (HV _).mono ?_)
    rintro r w7 ⟨rfl, hb7⟩
    have l7 := later hb7
    go_wp2_with (go_at_call 13; refine (sameList_true 0 0 0 A' c' [] none 0 [] _ SlAt.nil SlAt.nil (by simp) (by simp) (hide rfl)).mono ?_)
    rintro r w8 ⟨rfl, hb8⟩
    have l8 := later hb8
    have hz8 : w4.heap.size ≤ w8.heap.size := (below_of (b := w4)).size
    go_upto_region 12 with fail
    go_wp2_with (go_at_call 29; refine (decode_any bA bC b _ (HBs _) (by omega) hby).mono ?_)
    intro r wd hhd
    obtain ⟨R2, S2, C2, es2, e2, A4, c4, hd2, rfl, ho4, hbd⟩ := hhd
    have ld := later hbd
    have hrng := hide (dec_rng hby hd2.out)
    have hed := hide (enc_dec hby hd2.out)
    have hl2 : es2.length ≤ 1024 := hrng.out.2.2.2.2
    have hG : (Value.slice A4 es2.length c4).ownBlock ≠ some w3.heap.size := fun e => absurd (World.ownsRow.lt ho4 _ e).1 (by have := hg6; omega)
    have ho4' := ho4
    clear ho4
    go_upto_region 13 with fail
    refine wp_name ?_
    intro w12 hw12
    have b12 : w12.heap[w3.heap.size]? = some (.cells #[.int .i64 R2, .int .i64 S2, .int .i64 C2, .slice A4 es2.length c4] 26 (0, 0)) := by
      rw [← hw12]
      exact (blk_set (blk_set (blk_set (blk_set (B6 wd).1 0 _) 1 _) 2 _) 3 _).trans rfl
    have B12 := boxed b12
    have l12 : ∀ b [Later b w3], Later b w12 := fun b i => ⟨by
      have h := (i.trans (inferInstance : Later w3 wd)).below
      have hsz := i.below.size
      rw [← hw12]
      exact (((h.setCell hsz _).setCell hsz _).setCell hsz _).setCell hsz _⟩
    have hs12 := hide (show ∀ u [Later w12 u], SlAt ListedE.cells 3 u A4 es2 from by
      rw [← hw12]
      exact (Own.at_ ((((ho4'.far (p := ⟨w3.heap.size, 0, none⟩) hG _).far (p := ⟨w3.heap.size, 1, none⟩) hG _).far (p := ⟨w3.heap.size, 2, none⟩) hG _).far (p := ⟨w3.heap.size, 3, none⟩) hG _) ListedE.enc).2.2.later)
    clear hw12 ho4' B6
    by_cases he2 : e2 = 0
    rotate_left
    · have he2' : (e2 != 0) = true := by simp [he2]
      obtain ⟨rfl, rfl, rfl, rfl⟩ := hed.out.2 he2
      clear hed he2 hrng hd2
      go_wp2_with (go_at_call 13; refine (sameList_true 0 0 0 A4 c4 [] none 0 [] _ SlAt.nil SlAt.nil (by simp) (by simp) (hide rfl)).mono ?_)
      rintro r w13 ⟨rfl, hb13⟩
      have l13 := later hb13
      go_wp2_with fail
      go_ret
      exact ⟨rfl, below_of⟩
    · subst he2
      obtain ⟨hen, hvl⟩ := hed.out.1 rfl
      obtain ⟨g1, g2, g3, g4, -⟩ := hrng.out
      have HV : ∀ u [Later w12 u], Calls Try.prog 20 #[.agg #[.int .i64 R2, .int .i64 S2, .int .i64 C2, .slice A4 es2.length c4]] u fun r w' => r = .returned (.bool true) ∧ Below u.heap.size u w' := fun u i => by have := refValid_any' R2 S2 C2 A4 c4 es2 u (hs12.out u) (by omega); rw [hvl] at this; exact this
      have HE : ∀ u [Later w12 u], Calls Try.prog 28 #[.agg #[.int .i64 R2, .int .i64 S2, .int .i64 C2, .slice A4 es2.length c4]] u (BPost (encL R2 S2 C2 es2) u) := fun u i => encode_q R2 S2 C2 A4 c4 es2 u (hs12.out u) (by omega) g1 g2 g3 g4
      have hen' := hide hen
      clear hen hvl hed hd2 hrng
      go_wp2_with (go_at_call 20; refine (HV _).mono ?_)
      rintro r w13 ⟨rfl, hb13⟩
      have l13 := later hb13
      clear HV
      go_wp2_with (go_at_call 28; refine (HE _).mono ?_)
      intro r w14 h14
      obtain ⟨q5, A5, c5, hq5, rfl, S5, hb14⟩ := h14
      have l14 := later hb14
      go_wp2_with (go_at_call 30; refine (same_true A5 c5 q5 bA bC b _ (S5.later _) (HBs _) (hide (by rw [hq5.out, hen'.out]))).mono ?_)
      rintro r w15 ⟨rfl, hb15⟩
      have l15 := later hb15
      go_wp2_with fail
      go_ret
      exact ⟨rfl, below_of⟩
  · simp only [hv] at HV
    have hdd0 : ((R', S', C'), es', e') = ((R, S, C), es, (0 : Int)) := by rw [← hdd]; simp [hv]
    obtain ⟨⟨rfl, rfl, rfl⟩, hee', rfl⟩ : (R' = R ∧ S' = S ∧ C' = C) ∧ es' = es ∧ e' = 0 := by simpa using hdd0
    have hee := hide hee'.symm
    have hel' : es'.length ≤ 1024 := by rw [hee']; exact hel
    clear hdd hv hdd0 hee'
    go_wp2_with (go_at_call 20; refine (HV _).mono ?_)
    rintro r w7 ⟨rfl, hb7⟩
    have l7 := later hb7
    go_wp2_with (go_at_call 13; refine (sameList_true _ _ _ A c es A' c' es' _ (HLs _) (HS'.out _) (by omega) (by omega) hee).mono ?_)
    rintro r w8 ⟨rfl, hb8⟩
    have l8 := later hb8
    have hz8 : w4.heap.size ≤ w8.heap.size := (below_of (b := w4)).size
    go_upto_region 12 with fail
    go_wp2_with (go_at_call 29; refine (decode_any bA bC b _ (HBs _) (by omega) hby).mono ?_)
    intro r wd hhd
    obtain ⟨R2, S2, C2, es2, e2, A4, c4, hd2, rfl, ho4, hbd⟩ := hhd
    have ld := later hbd
    have hrng := hide (dec_rng hby hd2.out)
    have hed := hide (enc_dec hby hd2.out)
    have hl2 : es2.length ≤ 1024 := hrng.out.2.2.2.2
    have hG : (Value.slice A4 es2.length c4).ownBlock ≠ some w3.heap.size := fun e => absurd (World.ownsRow.lt ho4 _ e).1 (by have := hg6; omega)
    have ho4' := ho4
    clear ho4
    go_upto_region 13 with fail
    refine wp_name ?_
    intro w12 hw12
    have b12 : w12.heap[w3.heap.size]? = some (.cells #[.int .i64 R2, .int .i64 S2, .int .i64 C2, .slice A4 es2.length c4] 26 (0, 0)) := by
      rw [← hw12]
      exact (blk_set (blk_set (blk_set (blk_set (B6 wd).1 0 _) 1 _) 2 _) 3 _).trans rfl
    have B12 := boxed b12
    have l12 : ∀ b [Later b w3], Later b w12 := fun b i => ⟨by
      have h := (i.trans (inferInstance : Later w3 wd)).below
      have hsz := i.below.size
      rw [← hw12]
      exact (((h.setCell hsz _).setCell hsz _).setCell hsz _).setCell hsz _⟩
    have hs12 := hide (show ∀ u [Later w12 u], SlAt ListedE.cells 3 u A4 es2 from by
      rw [← hw12]
      exact (Own.at_ ((((ho4'.far (p := ⟨w3.heap.size, 0, none⟩) hG _).far (p := ⟨w3.heap.size, 1, none⟩) hG _).far (p := ⟨w3.heap.size, 2, none⟩) hG _).far (p := ⟨w3.heap.size, 3, none⟩) hG _) ListedE.enc).2.2.later)
    clear hw12 ho4' B6
    by_cases he2 : e2 = 0
    rotate_left
    · have he2' : (e2 != 0) = true := by simp [he2]
      obtain ⟨rfl, rfl, rfl, rfl⟩ := hed.out.2 he2
      clear hed he2 hrng hd2
      go_wp2_with (go_at_call 13; refine (sameList_true 0 0 0 A4 c4 [] none 0 [] _ SlAt.nil SlAt.nil (by simp) (by simp) (hide rfl)).mono ?_)
      rintro r w13 ⟨rfl, hb13⟩
      have l13 := later hb13
      go_wp2_with fail
      go_ret
      exact ⟨rfl, below_of⟩
    · subst he2
      obtain ⟨hen, hvl⟩ := hed.out.1 rfl
      obtain ⟨g1, g2, g3, g4, -⟩ := hrng.out
      have HV : ∀ u [Later w12 u], Calls Try.prog 20 #[.agg #[.int .i64 R2, .int .i64 S2, .int .i64 C2, .slice A4 es2.length c4]] u fun r w' => r = .returned (.bool true) ∧ Below u.heap.size u w' := fun u i => by have := refValid_any' R2 S2 C2 A4 c4 es2 u (hs12.out u) (by omega); rw [hvl] at this; exact this
      have HE : ∀ u [Later w12 u], Calls Try.prog 28 #[.agg #[.int .i64 R2, .int .i64 S2, .int .i64 C2, .slice A4 es2.length c4]] u (BPost (encL R2 S2 C2 es2) u) := fun u i => encode_q R2 S2 C2 A4 c4 es2 u (hs12.out u) (by omega) g1 g2 g3 g4
      have hen' := hide hen
      clear hen hvl hed hd2 hrng
      go_wp2_with (go_at_call 20; refine (HV _).mono ?_)
      rintro r w13 ⟨rfl, hb13⟩
      have l13 := later hb13
      clear HV
      go_wp2_with (go_at_call 28; refine (HE _).mono ?_)
      intro r w14 h14
      obtain ⟨q5, A5, c5, hq5, rfl, S5, hb14⟩ := h14
      have l14 := later hb14
      go_wp2_with (go_at_call 30; refine (same_true A5 c5 q5 bA bC b _ (S5.later _) (HBs _) (hide (by rw [hq5.out, hen'.out]))).mono ?_)
      rintro r w15 ⟨rfl, hb15⟩
      have l15 := later hb15
      go_wp2_with fail
      go_ret
      exact ⟨rfl, below_of⟩
end Go.Proofs.Ythigjlllhnajbaa

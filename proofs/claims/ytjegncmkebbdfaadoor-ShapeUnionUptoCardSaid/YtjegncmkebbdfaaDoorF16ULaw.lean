/-
  Contracts of the functions of this seat that each theorem names: what a call returns, and that it writes nothing that was there before. The conditions stand in each theorem.
-/
import Derived.Test.YtjegncmkebbdfaaDoorF16SUn2
import Derived.Test.YtjegncmkebbdfaaDoorF16Closed
set_option linter.unusedSimpArgs false
set_option linter.unusedVariables false
namespace Go.Proofs.YtjegncmkebbdfaaDoor
open Go.RowKit
attribute [local go_sem] Oper.semAt_some
attribute [local simp] heap_drew
theorem mergeN_mem {a b m : NodeC} (h : mergeN a b = some m) : m = a ∨ m = b := by
  unfold mergeN at h
  split at h
  · split at h
    · injection h with h; exact .inl h.symm
    · cases h
  · split at h
    · injection h with h
      split at h
      · exact .inr h.symm
      · exact .inl h.symm
    · cases h
theorem putN_mem {l l' : List NodeC} {n x : NodeC} (h : putN l n = some l') (hx : x ∈ l') : x ∈ l ∨ x = n := by
  have hins : x ∈ l.take (posN l n.id) ++ [n] ++ l.drop (posN l n.id) → x ∈ l ∨ x = n := fun hx => by
    rcases List.mem_append.1 hx with hx | hx
    · rcases List.mem_append.1 hx with hx | hx
      · exact .inl (List.mem_of_mem_take hx)
      · exact .inr (List.mem_singleton.1 hx)
    · exact .inl (List.mem_of_mem_drop hx)
  unfold putN at h
  split at h
  · next a ha =>
    split at h
    · obtain ⟨m, hm, rfl⟩ := Option.map_eq_some_iff.1 h
      rcases List.mem_or_eq_of_mem_set hx with hx | rfl
      · exact .inl hx
      · rcases mergeN_mem hm with rfl | rfl
        · exact .inl (List.mem_of_getElem? ha)
        · exact .inr rfl
    · injection h with h; subst h; exact hins hx
  · injection h with h; subst h; exact hins hx
theorem putAll_mem {ns : List NodeC} : ∀ {acc q : List NodeC} {x : NodeC}, putAll acc ns = some q → x ∈ q → x ∈ acc ∨ x ∈ ns := by
  induction ns with
  | nil => intro acc q x h hx; unfold putAll at h; injection h with h; subst h; exact .inl hx
  | cons n ns ih =>
    intro acc q x h hx
    unfold putAll at h
    split at h
    · cases h
    · next acc' ha =>
      rcases ih h hx with h1 | h1
      · rcases putN_mem ha h1 with h2 | rfl
        · exact .inl h2
        · exact .inr (List.mem_cons_self)
      · exact .inr (List.mem_cons_of_mem _ h1)
theorem unionC_bnd {ls : List (List NodeC)} {M N : Nat} (hN : ls.flatten.length ≤ N) (hM : ∀ L ∈ ls, ∀ x ∈ L, x.fields.length ≤ M) : (unionC ls).1.length ≤ N ∧ ∀ x ∈ (unionC ls).1, x.fields.length ≤ M := by
  unfold unionC
  split
  · split
    · next q hq =>
      refine ⟨by have := (putAll_sorted nil_sorted hq).2; simp only [List.length_nil] at this; show q.length ≤ N; omega, fun x hx => ?_⟩
      rcases putAll_mem hq hx with h | h
      · cases h
      · obtain ⟨L, hL, hx⟩ := List.mem_flatten.1 h
        exact hM L hL x hx
    · exact ⟨by simp, by simp⟩
  · exact ⟨by simp, by simp⟩
def UnionQ (p : List NodeC × Nat) (w : World) (r : Ending) (w' : World) : Prop := ∃ o OA OC, Hid (conL o = p.1) ∧ r = .returned (.tuple #[.agg #[.slice OA o.length OC], .int .i64 (p.2 : Nat)]) ∧ NodesAt w' OA o ∧ (o.length ≤ 10000 ∧ ∀ n ∈ o, n.fields.length ≤ 1000000) ∧ Below w.heap.size w w'
theorem unionQ_any (gs : List GrE) (g m : Nat) (w : World) (hm : m = gs.length) (hS : SlAt GrE.cells 1 w (some ⟨g, 0, none⟩) gs) (hN : ∀ x ∈ gs, NodesAt w x.A x.l) (hl : gs.length ≤ 1000000000) (ht : (conGs gs).flatten.length ≤ 10000) (hb : ∀ x ∈ gs, x.l.length ≤ 10000 ∧ ∀ n ∈ x.l, n.fields.length ≤ 1000000) :
    Calls Tryd.prog 24 #[.slice (some ⟨g, 0, none⟩) m m] w (UnionQ (unionC (conGs gs)) w) := by
  subst hm
  refine (unionS_any (some ⟨g, 0, none⟩) gs.length gs w ⟨hS, hN⟩ hl ht (fun x hx => by have := (hb x hx).1; omega) (fun x hx => (hb x hx).2)).mono ?_
  rintro r w' ⟨o, OA, OC, ho, hr, hg, hb'⟩
  obtain ⟨b1, b2⟩ := unionC_bnd (M := 1000000) ht (fun L hL x hx => by
    obtain ⟨y, hy, rfl⟩ := List.mem_map.1 hL
    obtain ⟨n, hn, rfl⟩ := List.mem_map.1 hx
    exact (hb y hy).2 n hn)
  rw [← ho.out] at b1 b2
  refine ⟨o, OA, OC, ho, hr, hg.nodes, ⟨by unfold conL at b1; rw [List.length_map] at b1; exact b1, fun n hn => b2 n.con (List.mem_map.2 ⟨n, hn, rfl⟩)⟩, hb'⟩
theorem union_two (A : Option Addr) (c : Nat) (a : List NodeE) (B : Option Addr) (d : Nat) (b : List NodeE) (g : Nat) (w : World) (hg : w.heap[g]? = some (.cells #[.slice A a.length c, .slice B b.length d] 24 (0, 0))) (H : NodesAt w A a) (K : NodesAt w B b) (ha : a.length ≤ 200 ∧ ∀ n ∈ a, n.fields.length ≤ 200) (hb : b.length ≤ 200 ∧ ∀ n ∈ b, n.fields.length ≤ 200) :
    Calls Tryd.prog 24 #[.slice (some ⟨g, 0, none⟩) 2 2] w (UnionQ (unionC [conL a, conL b]) w) := by
  have hla : (conL a).length = a.length := by unfold conL; rw [List.length_map]
  have hlb : (conL b).length = b.length := by unfold conL; rw [List.length_map]
  exact unionQ_any [⟨A, c, a⟩, ⟨B, d, b⟩] g 2 w rfl (blk_slAt GrE.enc (fr := (0, 0)) (e := 24) hg _ rfl) (fun x hx => by
    simp only [List.mem_cons, List.not_mem_nil, or_false] at hx
    rcases hx with rfl | rfl
    · exact H
    · exact K) (by simp) (by simp [conGs, hla, hlb]; omega) (fun x hx => by
    simp only [List.mem_cons, List.not_mem_nil, or_false] at hx
    rcases hx with rfl | rfl
    · exact ⟨by dsimp only; omega, fun n hn => by have := ha.2 n hn; omega⟩
    · exact ⟨by dsimp only; omega, fun n hn => by have := hb.2 n hn; omega⟩)
theorem union_three (A : Option Addr) (c : Nat) (a : List NodeE) (B : Option Addr) (d : Nat) (b : List NodeE) (g : Nat) (w : World) (hg : w.heap[g]? = some (.cells #[.slice B b.length d, .slice A a.length c, .slice B b.length d] 24 (0, 0))) (H : NodesAt w A a) (K : NodesAt w B b) (ha : a.length ≤ 200 ∧ ∀ n ∈ a, n.fields.length ≤ 200) (hb : b.length ≤ 200 ∧ ∀ n ∈ b, n.fields.length ≤ 200) :
    Calls Tryd.prog 24 #[.slice (some ⟨g, 0, none⟩) 3 3] w (UnionQ (unionC [conL a, conL b]) w) := by
  have hla : (conL a).length = a.length := by unfold conL; rw [List.length_map]
  have hlb : (conL b).length = b.length := by unfold conL; rw [List.length_map]
  rw [unionC_comm]
  exact unionQ_any [⟨B, d, b⟩, ⟨A, c, a⟩, ⟨B, d, b⟩] g 3 w rfl (blk_slAt GrE.enc (fr := (0, 0)) (e := 24) hg _ rfl) (fun x hx => by
    simp only [List.mem_cons, List.not_mem_nil, or_false] at hx
    rcases hx with rfl | rfl | rfl
    · exact K
    · exact H
    · exact K) (by simp) (by simp [conGs, hla, hlb]; omega) (fun x hx => by
    simp only [List.mem_cons, List.not_mem_nil, or_false] at hx
    rcases hx with rfl | rfl | rfl
    · exact ⟨by dsimp only; omega, fun n hn => by have := hb.2 n hn; omega⟩
    · exact ⟨by dsimp only; omega, fun n hn => by have := ha.2 n hn; omega⟩
    · exact ⟨by dsimp only; omega, fun n hn => by have := hb.2 n hn; omega⟩)
set_option maxRecDepth 100000 in
set_option maxHeartbeats 16000000 in
theorem lawUnion_any (A : Option Addr) (c : Nat) (p : List NodeE) (B : Option Addr) (d : Nat) (q : List NodeE) (w : World) (h : Tab10 w) (H : NodesAt w A p) (K : NodesAt w B q) (ht : cntG p + cntG q ≤ 1000000000) :
    Calls Tryd.prog 7 #[.agg #[.slice A p.length c], .agg #[.slice B q.length d]] w fun r w' => r = .returned (.bool true) ∧ Below w.heap.size w w' := by
  have HN := H.later
  have KN := K.later
  have HT := h.later
  have HA : ∀ u [Later w u], Calls Tryd.prog 10 #[] u fun r w' => r = .returned (.bool true) ∧ Below u.heap.size u w' := fun u i => awake_any u (HT u)
  have HF : ∀ u [Later w u], Calls Tryd.prog 8 #[.slice (some ⟨u.heap.size, 0, none⟩) 2 2] (u.alloc (.cells #[.slice A p.length c, .slice B q.length d] 24 (0, 0))) fun r w' => r = .returned (.bool (decide (cntG p + cntG q ≤ 200))) ∧ Below (u.alloc (.cells #[.slice A p.length c, .slice B q.length d] 24 (0, 0))).heap.size (u.alloc (.cells #[.slice A p.length c, .slice B q.length d] 24 (0, 0))) w' := fun u i => few_two A c p B d q _ _ (heap_alloc_new _ _) (HN _) (KN _) ht
  cases hfw : decide (cntG p + cntG q ≤ 200) with
  | false =>
    simp only [hfw] at HF
    clear hfw
    go_enter Tryd.func7, Tryd.ntmps7
    go_upto_region 1 with fail
    refine wp_name ?_
    intro w1 hw1
    obtain ⟨B0, B1, l1⟩ := box2 hw1
    have l11 : Later w1 w1 := Later.refl
    clear hw1
    go_wp2_with (first | (go_at_call 8; refine (HF _).mono ?_; rintro r w2 ⟨rfl, hb2⟩; have l2 := later hb2) | (go_at_call 10; refine (HA _).mono ?_; rintro r w3 ⟨rfl, hb3⟩; have l3 := later hb3))
    go_ret
    exact ⟨rfl, below_of⟩
  | true =>
    simp only [hfw] at HF
    have hpb := cnt_bounds (l := p) (m := 200) (by have := of_decide_eq_true hfw; omega)
    have hqb := cnt_bounds (l := q) (m := 200) (by have := of_decide_eq_true hfw; omega)
    clear hfw
    have U2 : ∀ u [Later w u], Calls Tryd.prog 24 #[.slice (some ⟨u.heap.size, 0, none⟩) 2 2] (u.alloc (.cells #[.slice A p.length c, .slice B q.length d] 24 (0, 0))) (UnionQ (unionC [conL p, conL q]) (u.alloc (.cells #[.slice A p.length c, .slice B q.length d] 24 (0, 0)))) := fun u i => union_two A c p B d q _ _ (heap_alloc_new _ _) (HN _) (KN _) hpb hqb
    have U3 : ∀ u [Later w u], Calls Tryd.prog 24 #[.slice (some ⟨u.heap.size, 0, none⟩) 3 3] (u.alloc (.cells #[.slice B q.length d, .slice A p.length c, .slice B q.length d] 24 (0, 0))) (UnionQ (unionC [conL p, conL q]) (u.alloc (.cells #[.slice B q.length d, .slice A p.length c, .slice B q.length d] 24 (0, 0)))) := fun u i => union_three A c p B d q _ _ (heap_alloc_new _ _) (HN _) (KN _) hpb hqb
    have UZ : ∀ u [Later w u], Calls Tryd.prog 24 #[.slice (some ⟨u.heap.size, 0, none⟩) 2 2] (u.alloc (.cells #[.slice A p.length c, .slice A p.length c] 24 (0, 0))) (UnionQ (unionC [conL p, conL p]) (u.alloc (.cells #[.slice A p.length c, .slice A p.length c] 24 (0, 0)))) := fun u i => union_two A c p A c p _ _ (heap_alloc_new _ _) (HN _) (HN _) hpb hpb
    have UW : ∀ u [Later w u], Calls Tryd.prog 24 #[.slice (some ⟨u.heap.size, 0, none⟩) 2 2] (u.alloc (.cells #[.slice none 0 0, .slice A p.length c] 24 (0, 0))) (UnionQ (unionC [[], conL p]) (u.alloc (.cells #[.slice none 0 0, .slice A p.length c] 24 (0, 0)))) := fun u i => union_two none 0 [] A c p _ _ (heap_alloc_new _ _) (OwnG.nil (base := 0)).nodes (HN _) (by simp) hpb
    have HV : ∀ u [Later w u], Calls Tryd.prog 9 #[.agg #[.slice A p.length c]] u fun r w' => r = .returned (.bool (valid16B (conL p))) ∧ Below u.heap.size u w' := fun u i => valid16_any A c p u (HN u) (by omega) (fun n hn => by have := hpb.2 n hn; omega)
    have EQ : ∀ (x y : List NodeE) (XA : Option Addr) (XC : Nat) (YA : Option Addr) (YC : Nat) (u : World), NodesAt u XA x → NodesAt u YA y → (x.length ≤ 10000 ∧ ∀ n ∈ x, n.fields.length ≤ 1000000) → (y.length ≤ 10000 ∧ ∀ n ∈ y, n.fields.length ≤ 1000000) → Hid (conL x = conL y) → Calls Tryd.prog 17 #[.agg #[.slice XA x.length XC], .agg #[.slice YA y.length YC]] u fun r w' => r = .returned (.bool true) ∧ Below u.heap.size u w' := fun x y XA XC YA YC u hx hy bx b' hh => by
      have := equal16_any XA XC x YA YC y u hx hy (by omega) (by omega) (fun n hn => by have := bx.2 n hn; omega) (fun n hn => by have := b'.2 n hn; omega)
      rw [decide_eq_true hh.out] at this
      exact this
    generalize unionC [conL p, conL q] = P at U2 U3
    obtain ⟨L, e⟩ := P
    have hpp : p.length ≤ 10000 ∧ ∀ n ∈ p, n.fields.length ≤ 1000000 := ⟨by omega, fun n hn => by have := hpb.2 n hn; omega⟩
    have hee : ((e : Int) != (e : Int)) = false := by simp
    go_enter Tryd.func7, Tryd.ntmps7
    go_upto_region 1 with fail
    refine wp_name ?_
    intro w1 hw1
    obtain ⟨B0, B1, l1⟩ := box2 hw1
    have l11 : Later w1 w1 := Later.refl
    clear hw1
    go_upto_region 3 with (go_at_call 8; refine (HF _).mono ?_; rintro r w2 ⟨rfl, hb2⟩; have l2 := later hb2)
    go_upto_region 4 with (go_at_call 24; refine (U2 _).mono ?_; rintro r w3 ⟨x, XA, XC, hx, rfl, NX, bx, hb3⟩; have l3 := later hb3)
    refine wp_name ?_
    intro w4 hw4
    have h5 : w4.heap[w3.heap.size]? = some (.cells #[.slice XA x.length XC] 24 (0, 0)) := (by rw [← hw4]; simp only [heap_alloc_if, World.size_alloc]; repeat (first | rw [if_pos trivial] | rw [if_neg (by omega)] | rw [if_pos (by omega)]); try rfl)
    have hb4 : Below w3.heap.size w3 w4 := by rw [← hw4]; exact (by repeat (first | with_reducible exact Below.refl _ _ | (with_reducible refine Below.drew ?_) | (with_reducible refine below_drewN ?_ _) | (with_reducible refine Below.alloc ?_ ?_ _; rotate_left; (first | omega | (simp <;> omega))) | (with_reducible refine Below.setCell ?_ ?_ _; rotate_left; (first | omega | (simp <;> omega)))))
    clear hw4
    have l4 := later hb4
    have l44 : Later w4 w4 := Later.refl
    have X5 := boxed h5
    have NX4 : ∀ u [Later w4 u], NodesAt u XA x := fun u i => NX.below (hb4.trans (i.below.mono hb4.size))
    clear h5 NX U2
    go_upto_region 5 with (go_at_call 24; refine (U3 _).mono ?_; rintro r w5 ⟨y, YA, YC, hy, rfl, NY, by5, hb5⟩; have l5 := later hb5)
    refine wp_name ?_
    intro w6 hw6
    have h7 : w6.heap[w5.heap.size]? = some (.cells #[.slice YA y.length YC] 24 (0, 0)) := (by rw [← hw6]; simp only [heap_alloc_if, World.size_alloc]; repeat (first | rw [if_pos trivial] | rw [if_neg (by omega)] | rw [if_pos (by omega)]); try rfl)
    have hb6 : Below w5.heap.size w5 w6 := by rw [← hw6]; exact (by repeat (first | with_reducible exact Below.refl _ _ | (with_reducible refine Below.drew ?_) | (with_reducible refine below_drewN ?_ _) | (with_reducible refine Below.alloc ?_ ?_ _; rotate_left; (first | omega | (simp <;> omega))) | (with_reducible refine Below.setCell ?_ ?_ _; rotate_left; (first | omega | (simp <;> omega)))))
    clear hw6
    have l6 := later hb6
    have l66 : Later w6 w6 := Later.refl
    have X7 := boxed h7
    have NY6 : ∀ u [Later w6 u], NodesAt u YA y := fun u i => NY.below (hb6.trans (i.below.mono hb6.size))
    have hxy : Hid (conL x = conL y) := hide (hx.out.trans hy.out.symm)
    clear h7 NY U3 hx hy
    go_upto_region 7 with (go_at_call 17; refine (EQ x y XA XC YA YC _ (NX4 _) (NY6 _) bx by5 hxy).mono ?_; rintro r w7 ⟨rfl, hb7⟩; have l7 := later hb7)
    clear X5 X7 NX4 NY6 hxy bx by5
    cases hva : valid16B (conL p) with
    | false =>
      simp only [hva] at HV
      rw [unionC_bad (List.mem_cons_self) hva] at UZ
      rw [unionC_bad (List.mem_cons_of_mem _ List.mem_cons_self) hva] at UW
      clear hva EQ
      have UZ' : ∀ u [Later w u], Calls Tryd.prog 24 #[.slice (some ⟨u.heap.size, 0, none⟩) 2 2] (u.alloc (.cells #[.slice A p.length c, .slice A p.length c] 24 (0, 0))) fun r w' => ∃ o OA OC, Hid (conL o = []) ∧ r = .returned (.tuple #[.agg #[.slice OA o.length OC], .int .i64 1]) ∧ NodesAt w' OA o ∧ (o.length ≤ 10000 ∧ ∀ n ∈ o, n.fields.length ≤ 1000000) ∧ Below (u.alloc (.cells #[.slice A p.length c, .slice A p.length c] 24 (0, 0))).heap.size (u.alloc (.cells #[.slice A p.length c, .slice A p.length c] 24 (0, 0))) w' := UZ
      have UW' : ∀ u [Later w u], Calls Tryd.prog 24 #[.slice (some ⟨u.heap.size, 0, none⟩) 2 2] (u.alloc (.cells #[.slice none 0 0, .slice A p.length c] 24 (0, 0))) fun r w' => ∃ o OA OC, Hid (conL o = []) ∧ r = .returned (.tuple #[.agg #[.slice OA o.length OC], .int .i64 1]) ∧ NodesAt w' OA o ∧ (o.length ≤ 10000 ∧ ∀ n ∈ o, n.fields.length ≤ 1000000) ∧ Below (u.alloc (.cells #[.slice none 0 0, .slice A p.length c] 24 (0, 0))).heap.size (u.alloc (.cells #[.slice none 0 0, .slice A p.length c] 24 (0, 0))) w' := UW
      clear UZ UW
      go_upto_region 8 with (go_at_call 24; refine (UZ' _).mono ?_; rintro r w8 ⟨z, ZA, ZC, hz, rfl, NZ, bz, hb8⟩; have l8 := later hb8)
      refine wp_name ?_
      intro w9 hw9
      have h9 : w9.heap[w8.heap.size]? = some (.cells #[.slice ZA z.length ZC] 24 (0, 0)) := (by rw [← hw9]; simp only [heap_alloc_if, World.size_alloc]; repeat (first | rw [if_pos trivial] | rw [if_neg (by omega)] | rw [if_pos (by omega)]); try rfl)
      have hb9 : Below w8.heap.size w8 w9 := by rw [← hw9]; exact (by repeat (first | with_reducible exact Below.refl _ _ | (with_reducible refine Below.drew ?_) | (with_reducible refine below_drewN ?_ _) | (with_reducible refine Below.alloc ?_ ?_ _; rotate_left; (first | omega | (simp <;> omega))) | (with_reducible refine Below.setCell ?_ ?_ _; rotate_left; (first | omega | (simp <;> omega)))))
      clear hw9
      have l9 := later hb9
      have l99 : Later w9 w9 := Later.refl
      have X9 := boxed h9
      have NZ9 : ∀ u [Later w9 u], NodesAt u ZA z := fun u i => NZ.below (hb9.trans (i.below.mono hb9.size))
      clear h9 NZ UZ'
      go_upto_region 9 with (go_at_call 24; refine (UW' _).mono ?_; rintro r w10 ⟨v, VA, VC, hv, rfl, NV, bv, hb10⟩; have l10 := later hb10)
      refine wp_name ?_
      intro w11 hw11
      have h11 : w11.heap[w10.heap.size]? = some (.cells #[.slice VA v.length VC] 24 (0, 0)) := (by rw [← hw11]; simp only [heap_alloc_if, World.size_alloc]; repeat (first | rw [if_pos trivial] | rw [if_neg (by omega)] | rw [if_pos (by omega)]); try rfl)
      have hb11 : Below w10.heap.size w10 w11 := by rw [← hw11]; exact (by repeat (first | with_reducible exact Below.refl _ _ | (with_reducible refine Below.drew ?_) | (with_reducible refine below_drewN ?_ _) | (with_reducible refine Below.alloc ?_ ?_ _; rotate_left; (first | omega | (simp <;> omega))) | (with_reducible refine Below.setCell ?_ ?_ _; rotate_left; (first | omega | (simp <;> omega)))))
      clear hw11
      have l11' := later hb11
      have l1111 : Later w11 w11 := Later.refl
      have X11 := boxed h11
      have NV11 : ∀ u [Later w11 u], NodesAt u VA v := fun u i => NV.below (hb11.trans (i.below.mono hb11.size))
      clear h11 NV UW'
      clear hz hv
      go_wp2_with (first | (go_at_call 9; refine (HV _).mono ?_; rintro r w12 ⟨rfl, hb12⟩; have l12 := later hb12) | (go_at_call 10; refine (HA _).mono ?_; rintro r w13 ⟨rfl, hb13⟩; have l13 := later hb13))
      go_ret
      exact ⟨rfl, below_of⟩
    | true =>
      simp only [hva] at HV
      rw [(unionC_self hva).1] at UZ
      rw [(unionC_self hva).2] at UW
      clear hva
      have UZ' : ∀ u [Later w u], Calls Tryd.prog 24 #[.slice (some ⟨u.heap.size, 0, none⟩) 2 2] (u.alloc (.cells #[.slice A p.length c, .slice A p.length c] 24 (0, 0))) fun r w' => ∃ o OA OC, Hid (conL o = conL p) ∧ r = .returned (.tuple #[.agg #[.slice OA o.length OC], .int .i64 0]) ∧ NodesAt w' OA o ∧ (o.length ≤ 10000 ∧ ∀ n ∈ o, n.fields.length ≤ 1000000) ∧ Below (u.alloc (.cells #[.slice A p.length c, .slice A p.length c] 24 (0, 0))).heap.size (u.alloc (.cells #[.slice A p.length c, .slice A p.length c] 24 (0, 0))) w' := UZ
      have UW' : ∀ u [Later w u], Calls Tryd.prog 24 #[.slice (some ⟨u.heap.size, 0, none⟩) 2 2] (u.alloc (.cells #[.slice none 0 0, .slice A p.length c] 24 (0, 0))) fun r w' => ∃ o OA OC, Hid (conL o = conL p) ∧ r = .returned (.tuple #[.agg #[.slice OA o.length OC], .int .i64 0]) ∧ NodesAt w' OA o ∧ (o.length ≤ 10000 ∧ ∀ n ∈ o, n.fields.length ≤ 1000000) ∧ Below (u.alloc (.cells #[.slice none 0 0, .slice A p.length c] 24 (0, 0))).heap.size (u.alloc (.cells #[.slice none 0 0, .slice A p.length c] 24 (0, 0))) w' := UW
      clear UZ UW
      go_upto_region 8 with (go_at_call 24; refine (UZ' _).mono ?_; rintro r w8 ⟨z, ZA, ZC, hz, rfl, NZ, bz, hb8⟩; have l8 := later hb8)
      refine wp_name ?_
      intro w9 hw9
      have h9 : w9.heap[w8.heap.size]? = some (.cells #[.slice ZA z.length ZC] 24 (0, 0)) := (by rw [← hw9]; simp only [heap_alloc_if, World.size_alloc]; repeat (first | rw [if_pos trivial] | rw [if_neg (by omega)] | rw [if_pos (by omega)]); try rfl)
      have hb9 : Below w8.heap.size w8 w9 := by rw [← hw9]; exact (by repeat (first | with_reducible exact Below.refl _ _ | (with_reducible refine Below.drew ?_) | (with_reducible refine below_drewN ?_ _) | (with_reducible refine Below.alloc ?_ ?_ _; rotate_left; (first | omega | (simp <;> omega))) | (with_reducible refine Below.setCell ?_ ?_ _; rotate_left; (first | omega | (simp <;> omega)))))
      clear hw9
      have l9 := later hb9
      have l99 : Later w9 w9 := Later.refl
      have X9 := boxed h9
      have NZ9 : ∀ u [Later w9 u], NodesAt u ZA z := fun u i => NZ.below (hb9.trans (i.below.mono hb9.size))
      clear h9 NZ UZ'
      go_upto_region 9 with (go_at_call 24; refine (UW' _).mono ?_; rintro r w10 ⟨v, VA, VC, hv, rfl, NV, bv, hb10⟩; have l10 := later hb10)
      refine wp_name ?_
      intro w11 hw11
      have h11 : w11.heap[w10.heap.size]? = some (.cells #[.slice VA v.length VC] 24 (0, 0)) := (by rw [← hw11]; simp only [heap_alloc_if, World.size_alloc]; repeat (first | rw [if_pos trivial] | rw [if_neg (by omega)] | rw [if_pos (by omega)]); try rfl)
      have hb11 : Below w10.heap.size w10 w11 := by rw [← hw11]; exact (by repeat (first | with_reducible exact Below.refl _ _ | (with_reducible refine Below.drew ?_) | (with_reducible refine below_drewN ?_ _) | (with_reducible refine Below.alloc ?_ ?_ _; rotate_left; (first | omega | (simp <;> omega))) | (with_reducible refine Below.setCell ?_ ?_ _; rotate_left; (first | omega | (simp <;> omega)))))
      clear hw11
      have l11' := later hb11
      have l1111 : Later w11 w11 := Later.refl
      have X11 := boxed h11
      have NV11 : ∀ u [Later w11 u], NodesAt u VA v := fun u i => NV.below (hb11.trans (i.below.mono hb11.size))
      clear h11 NV UW'
      go_wp2_with (first | (go_at_call 9; refine (HV _).mono ?_; rintro r w12 ⟨rfl, hb12⟩; have l12 := later hb12) | (go_at_call_has 17 (Value.slice ZA z.length ZC); refine (EQ z p ZA ZC A c _ (NZ9 _) (HN _) bz hpp hz).mono ?_; rintro r w13 ⟨rfl, hb13⟩; have l13 := later hb13) | (go_at_call_has 17 (Value.slice VA v.length VC); refine (EQ v p VA VC A c _ (NV11 _) (HN _) bv hpp hv).mono ?_; rintro r w14 ⟨rfl, hb14⟩; have l14 := later hb14) | (go_at_call 10; refine (HA _).mono ?_; rintro r w15 ⟨rfl, hb15⟩; have l15 := later hb15))
      go_ret
      exact ⟨rfl, below_of⟩
end Go.Proofs.YtjegncmkebbdfaaDoor

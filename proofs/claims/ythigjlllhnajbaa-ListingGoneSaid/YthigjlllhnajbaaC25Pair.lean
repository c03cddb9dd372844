/-
  A client and an owner of chapter 25: what the events do, what they keep; plain Lean. No condition.
-/
import Derived.Test.YthigjlllhnajbaaC25Plain4
import Derived.Test.YthigjlllhnajbaaC25Plain5
namespace Go.Proofs.Ythigjlllhnajbaa
structure LP where
  round : Nat
  sent : Nat
  received : Nat
  entries : List ListedE
structure PairS where
  stubs : List StubE
  scions : List ScionE
  toClient : List ScionE
  toOwner : List ScionE
  sent : Nat
  got : Nat
  out : Nat
  inn : Nat
  round : Nat
  applied : Nat
  next : Nat
  lists : List LP
def scID (x : ScionE) (m s : Int) : Bool := x.iDMachine == m && x.iDSerial == s
def stID (x : StubE) (m s : Int) : Bool := x.iDMachine == m && x.iDSerial == s
def dropS (l : List StubE) (m s : Int) : List StubE := l.filter fun x => !stID x m s
def newStub (x : ScionE) : StubE := ⟨2, x.number, x.iDMachine, x.iDSerial, 0, 0, 0, false, false, false, 0, 0⟩
def ScionE.sentAt (x : ScionE) (o : Int) : ScionE := { x with out := o, weak := false }
def expScion (next out : Nat) (m s : Int) : ScionE := ⟨1, 2 * next + 1, m, s, out, 0, 0, false, false, false, 0, 0⟩
def movScion (next sent : Nat) : ScionE := ⟨1, 2 * next, 1, next, 0, sent, 0, false, false, false, 0, 0⟩
def PairS.export (p : PairS) (m s : Int) : PairS := match p.scions.findIdx? (fun x => scID x m s) with
  | some i => match p.scions[i]? with
    | some x => { p with out := p.out + 1, scions := p.scions.set i (x.sentAt (p.out + 1 : Nat)), toClient := p.toClient ++ [x.sentAt (p.out + 1 : Nat)] }
    | none => p
  | none => { p with out := p.out + 1, next := p.next + 1, scions := p.scions ++ [expScion (p.next + 1) (p.out + 1) m s], toClient := p.toClient ++ [expScion (p.next + 1) (p.out + 1) m s] }
def PairS.move (p : PairS) : PairS := { p with sent := p.sent + 1, next := p.next + 1, toOwner := p.toOwner ++ [movScion (p.next + 1) (p.sent + 1)], stubs := p.stubs ++ [newStub (movScion (p.next + 1) (p.sent + 1))] }
def PairS.take (p : PairS) : PairS := match p.toOwner[p.got]? with
  | some x => { p with scions := p.scions ++ [x], got := p.got + 1 }
  | none => p
def PairS.receive (p : PairS) : PairS := match p.toClient[p.inn]? with
  | some x => if p.stubs.any (fun s => stID s x.iDMachine x.iDSerial && !s.weak) then { p with inn := p.inn + 1 } else { p with inn := p.inn + 1, stubs := dropS p.stubs x.iDMachine x.iDSerial ++ [newStub x] }
  | none => p
def PairS.drop (p : PairS) (n : Nat) : PairS := match p.stubs[n % p.stubs.length]? with
  | some x => { p with stubs := dropS p.stubs x.iDMachine x.iDSerial }
  | none => p
def PairS.weaken (p : PairS) (n : Nat) : PairS := match p.stubs[n % p.stubs.length]? with
  | some x => { p with stubs := p.stubs.set (n % p.stubs.length) { x with weak := true } }
  | none => p
def PairS.list (p : PairS) : PairS := { p with round := p.round + 1, lists := p.lists ++ [⟨p.round + 1, p.sent, p.inn, refBuildL 2 p.stubs⟩] }
def readyP (p : PairS) (l : LP) : Prop := l.entries.length ≤ 1024 ∧ okB l.entries = true ∧ 1 ≤ l.round ∧ p.applied < l.round ∧ l.sent ≤ p.got
instance (p : PairS) (l : LP) : Decidable (readyP p l) := inferInstanceAs (Decidable (_ ∧ _))
def PairS.apply (p : PairS) (n : Nat) : PairS := match p.lists[n % p.lists.length]? with
  | some l => if readyP p l then { p with scions := keptL l.entries l.received l.sent p.scions, applied := l.round } else p
  | none => p
/-- The scion x answers for the stub s. -/
structure Ans (s : StubE) (x : ScionE) : Prop where
  num : x.number = s.number
  client : x.client = 1
  weak : x.weak = true → s.weak = true
def moving (p : PairS) (n : Int) : Prop := ∃ (i : Nat) (x : ScionE), p.got ≤ i ∧ p.toOwner[i]? = some x ∧ x.number = n
/-- What a list says of a stub that is there. -/
def Said (p : PairS) (l : LP) (s : StubE) : Prop := (∃ e ∈ l.entries, e.number = s.number ∧ (e.weak = true → s.weak = true)) ∨ (∃ (i : Nat) (x : ScionE), p.got ≤ i ∧ p.toOwner[i]? = some x ∧ x.number = s.number ∧ l.sent ≤ i) ∨
  (∃ x ∈ p.scions, x.number = s.number ∧ ((l.received : Int) < x.out ∨ (l.sent : Int) < x.inn))
structure PI (p : PairS) : Prop where
  phi : ∃ f : Int → Int × Int, (∀ s ∈ p.stubs, f s.number = (s.iDMachine, s.iDSerial)) ∧ (∀ x ∈ p.scions, f x.number = (x.iDMachine, x.iDSerial)) ∧ (∀ x ∈ p.toClient, f x.number = (x.iDMachine, x.iDSerial)) ∧ (∀ x ∈ p.toOwner, f x.number = (x.iDMachine, x.iDSerial))
  bound : (∀ s ∈ p.stubs, s.number ≤ 2 * p.next + 1) ∧ (∀ x ∈ p.scions, x.number ≤ 2 * p.next + 1) ∧ (∀ x ∈ p.toClient, x.number ≤ 2 * p.next + 1) ∧ (∀ x ∈ p.toOwner, x.number ≤ 2 * p.next + 1)
  scn : (p.scions.map (·.number)).Nodup
  own : ∀ (i j : Nat) (x y : ScionE), p.toOwner[i]? = some x → p.toOwner[j]? = some y → x.number = y.number → i = j
  apart : ∀ (i : Nat) (x : ScionE), p.got ≤ i → p.toOwner[i]? = some x → ∀ y ∈ p.scions, y.number ≠ x.number
  stn : (p.stubs.map (·.number)).Nodup
  st : ∀ s ∈ p.stubs, s.owner = 2 ∧ s.distance = 0 ∧ s.dead = false
  len : p.toClient.length = p.out ∧ p.toOwner.length = p.sent ∧ p.got ≤ p.sent ∧ p.inn ≤ p.out
  sc : ∀ x ∈ p.scions, x.client = 1 ∧ x.out ≤ p.out ∧ x.inn ≤ p.sent
  ow : ∀ (i : Nat) (x : ScionE), p.toOwner[i]? = some x → x.client = 1 ∧ x.inn = ((i + 1 : Nat) : Int) ∧ x.out = 0 ∧ x.weak = false
  cl : ∀ (i : Nat) (m : ScionE), p.inn ≤ i → p.toClient[i]? = some m → ∃ x ∈ p.scions, x.number = m.number ∧ x.client = 1 ∧ ((i + 1 : Nat) : Int) ≤ x.out ∧ x.weak = false
  kn : ∀ s ∈ p.stubs, moving p s.number ∨ ∃ x ∈ p.scions, Ans s x
  app : p.applied ≤ p.round
  ls : ∀ l ∈ p.lists, 1 ≤ l.round ∧ l.round ≤ p.round ∧ l.received ≤ p.inn ∧ l.sent ≤ p.sent ∧ StrictL l.entries
  said : ∀ l ∈ p.lists, p.applied < l.round → ∀ s ∈ p.stubs, Said p l s
theorem PI.start : PI ⟨[], [], [], [], 0, 0, 0, 0, 0, 0, 0, []⟩ where
  phi := ⟨fun _ => (0, 0), by simp, by simp, by simp, by simp⟩
  bound := by simp
  scn := by simp
  own := by simp
  apart := by simp
  stn := by simp
  st := by simp
  len := by simp
  sc := by simp
  ow := by simp
  cl := by simp
  kn := by simp
  app := by simp
  ls := by simp
  said := by simp
theorem nodup_sub {α β : Type} {f : α → β} {l l' : List α} (h : (l.map f).Nodup) (hs : l'.Sublist l) : (l'.map f).Nodup := h.sublist (hs.map f)
theorem nodup_snoc {α : Type} {f : α → Int} {l : List α} {x : α} (h : (l.map f).Nodup) (hx : ∀ y ∈ l, f y ≠ f x) : ((l ++ [x]).map f).Nodup := by
  rw [List.map_append, List.nodup_append]
  refine ⟨h, by simp, fun a ha b hb => ?_⟩
  obtain ⟨y, hy, rfl⟩ := List.mem_map.1 ha
  simp at hb; rw [hb]; exact hx y hy
theorem get_snoc {α : Type} {l : List α} {x y : α} {i : Nat} (h : (l ++ [x])[i]? = some y) : (l[i]? = some y ∧ i < l.length) ∨ (i = l.length ∧ y = x) := by
  rcases Nat.lt_or_ge i l.length with hi | hi
  · rw [List.getElem?_append_left hi] at h; exact .inl ⟨h, hi⟩
  · rw [List.getElem?_append_right hi] at h
    have h0 : i - l.length = 0 := by
      rcases Nat.eq_zero_or_pos (i - l.length) with h' | h'
      · exact h'
      · rw [List.getElem?_eq_none (by simp; omega)] at h; cases h
    rw [h0] at h
    exact .inr ⟨by omega, by simpa using h.symm⟩
theorem get_keep {α : Type} {l l' : List α} {i : Nat} {x : α} (h : l[i]? = some x) : (l ++ l')[i]? = some x := by
  rw [List.getElem?_append_left (List.getElem?_eq_some_iff.1 h).1]; exact h
/-- A smaller list of stubs. -/
theorem PI.less {p : PairS} (h : PI p) {l : List StubE} (hs : l.Sublist p.stubs) : PI { p with stubs := l } where
  phi := by
    obtain ⟨f, h1, h2⟩ := h.phi
    exact ⟨f, fun s hs' => h1 s (hs.subset hs'), h2⟩
  bound := ⟨fun s hs' => h.bound.1 s (hs.subset hs'), h.bound.2⟩
  scn := h.scn
  own := h.own
  apart := h.apart
  stn := nodup_sub h.stn hs
  st := fun s hs' => h.st s (hs.subset hs')
  len := h.len
  sc := h.sc
  ow := h.ow
  cl := h.cl
  kn := fun s hs' => h.kn s (hs.subset hs')
  app := h.app
  ls := h.ls
  said := fun l hl ha s hs' => h.said l hl ha s (hs.subset hs')
theorem PI.drop {p : PairS} (h : PI p) (n : Nat) : PI (p.drop n) := by
  unfold PairS.drop
  split
  · exact h.less List.filter_sublist
  · exact h
theorem set_mem' {α : Type} {l : List α} {i : Nat} {x v y : α} (hx : l[i]? = some x) (h : y ∈ l.set i v) : y = v ∨ y ∈ l := (List.mem_or_eq_of_mem_set h).symm
theorem set_map {α β : Type} {f : α → β} {l : List α} {i : Nat} {x v : α} (hx : l[i]? = some x) (hf : f v = f x) : (l.set i v).map f = l.map f := by
  rw [List.map_set, hf]
  apply List.ext_getElem?
  intro k
  rw [List.getElem?_set]
  split
  · rename_i hik
    subst hik
    split
    · rw [List.getElem?_map, hx]; rfl
    · rename_i hl; rw [List.length_map] at hl; exact absurd (List.getElem?_eq_some_iff.1 hx).1 hl
  · rfl
theorem PI.weaken {p : PairS} (h : PI p) (n : Nat) : PI (p.weaken n) := by
  unfold PairS.weaken
  split
  · rename_i x hx
    have hm := List.mem_of_getElem? hx
    refine ⟨?_, ⟨fun s hs => ?_, h.bound.2⟩, h.scn, h.own, h.apart, ?_, fun s hs => ?_, h.len, h.sc, h.ow, h.cl, fun s hs => ?_, h.app, h.ls, fun l hl ha s hs => ?_⟩
    · obtain ⟨f, h1, h2⟩ := h.phi
      refine ⟨f, fun s hs => ?_, h2⟩
      rcases set_mem' hx hs with rfl | hs
      · exact h1 x hm
      · exact h1 s hs
    · rcases set_mem' hx hs with rfl | hs
      · exact h.bound.1 x hm
      · exact h.bound.1 s hs
    · show ((p.stubs.set (n % p.stubs.length) { x with weak := true }).map fun s : StubE => s.number).Nodup
      rw [set_map (v := { x with weak := true }) (f := fun s : StubE => s.number) hx rfl]; exact h.stn
    · rcases set_mem' hx hs with rfl | hs
      · exact h.st x hm
      · exact h.st s hs
    · rcases set_mem' hx hs with rfl | hs
      · rcases h.kn x hm with h1 | ⟨y, hy, h2⟩
        · exact .inl h1
        · exact .inr ⟨y, hy, h2.num, h2.client, fun _ => rfl⟩
      · exact h.kn s hs
    · rcases set_mem' hx hs with rfl | hs
      · rcases h.said l hl ha x hm with ⟨e, he, h1, _⟩ | h1 | h1
        · exact .inl ⟨e, he, h1, fun _ => rfl⟩
        · exact .inr (.inl h1)
        · exact .inr (.inr h1)
      · exact h.said l hl ha s hs
  · exact h
theorem phi_new {f : Int → Int × Int} {n : Int} {v : Int × Int} {k : Int} (h : k ≠ n) : (fun x => if x = n then v else f x) k = f k := if_neg h
theorem PI.move {p : PairS} (h : PI p) : PI p.move := by
  have hn : (movScion (p.next + 1) (p.sent + 1)).number = 2 * ((p.next : Int) + 1) := by simp [movScion]
  have hb : ∀ k : Int, k ≤ 2 * p.next + 1 → k ≠ 2 * ((p.next : Int) + 1) := fun k hk => by omega
  have hl := h.len
  refine ⟨?_, ⟨fun s hs => ?_, fun x hx => ?_, fun x hx => ?_, fun x hx => ?_⟩, h.scn, fun i j x y hx hy he => ?_, fun i x hi hx y hy => ?_, ?_, fun s hs => ?_, ⟨hl.1, ?_, ?_, hl.2.2.2⟩, fun x hx => ?_, fun i x hx => ?_, h.cl, fun s hs => ?_, h.app, fun l hl => ?_, fun l hl' ha s hs => ?_⟩
  · obtain ⟨f, h1, h2, h3, h4⟩ := h.phi
    refine ⟨fun x => if x = 2 * ((p.next : Int) + 1) then (1, ((p.next + 1 : Nat) : Int)) else f x, fun s hs => ?_, fun x hx => ?_, fun x hx => ?_, fun x hx => ?_⟩
    · rcases List.mem_append.1 hs with hs | hs
      · rw [phi_new (hb _ (h.bound.1 s hs))]; exact h1 s hs
      · rw [List.mem_singleton] at hs; subst hs; simp [newStub, movScion]
    · rw [phi_new (hb _ (h.bound.2.1 x hx))]; exact h2 x hx
    · rw [phi_new (hb _ (h.bound.2.2.1 x hx))]; exact h3 x hx
    · rcases List.mem_append.1 hx with hx | hx
      · rw [phi_new (hb _ (h.bound.2.2.2 x hx))]; exact h4 x hx
      · rw [List.mem_singleton] at hx; subst hx; simp [movScion]
  · rcases List.mem_append.1 hs with hs | hs
    · have := h.bound.1 s hs; simp only [PairS.move]; omega
    · rw [List.mem_singleton] at hs; subst hs; simp [newStub, movScion, PairS.move]; omega
  · have := h.bound.2.1 x hx; simp only [PairS.move]; omega
  · have := h.bound.2.2.1 x hx; simp only [PairS.move]; omega
  · rcases List.mem_append.1 hx with hx | hx
    · have := h.bound.2.2.2 x hx; simp only [PairS.move]; omega
    · rw [List.mem_singleton] at hx; subst hx; simp [movScion, PairS.move]; omega
  · rcases get_snoc hx with ⟨hx, hi⟩ | ⟨hi, rfl⟩ <;> rcases get_snoc hy with ⟨hy, hj⟩ | ⟨hj, rfl⟩
    · exact h.own i j x y hx hy he
    · exact absurd (he.trans hn) (hb _ (h.bound.2.2.2 x (List.mem_of_getElem? hx)))
    · exact absurd (he.symm.trans hn) (hb _ (h.bound.2.2.2 y (List.mem_of_getElem? hy)))
    · omega
  · rcases get_snoc hx with ⟨hx, _⟩ | ⟨_, rfl⟩
    · exact h.apart i x hi hx y hy
    · rw [hn]; exact hb _ (h.bound.2.1 y hy)
  · refine nodup_snoc h.stn fun y hy => ?_
    have := hb _ (h.bound.1 y hy)
    simpa [newStub, movScion] using this
  · rcases List.mem_append.1 hs with hs | hs
    · exact h.st s hs
    · rw [List.mem_singleton] at hs; subst hs; exact ⟨rfl, rfl, rfl⟩
  · simp only [PairS.move, List.length_append, List.length_singleton]; omega
  · simp only [PairS.move]; omega
  · have := h.sc x hx; simp only [PairS.move]; exact ⟨this.1, this.2.1, by omega⟩
  · rcases get_snoc hx with ⟨hx, _⟩ | ⟨hi, rfl⟩
    · exact h.ow i x hx
    · subst hi; exact ⟨rfl, by simp [movScion, hl.2.1], rfl, rfl⟩
  · rcases List.mem_append.1 hs with hs | hs
    · rcases h.kn s hs with ⟨i, x, h1, h2, h3⟩ | h1
      · exact .inl ⟨i, x, h1, get_keep h2, h3⟩
      · exact .inr h1
    · rw [List.mem_singleton] at hs; subst hs
      exact .inl ⟨p.toOwner.length, _, by have := hl.2; simp only [PairS.move]; omega, List.getElem?_concat_length, rfl⟩
  · obtain ⟨a, b, c, d, e⟩ := h.ls l hl
    simp only [PairS.move]
    exact ⟨a, b, c, by omega, e⟩
  · rcases List.mem_append.1 hs with hs | hs
    · rcases h.said l hl' ha s hs with h1 | ⟨i, x, a, b, c, d⟩ | h1
      · exact .inl h1
      · exact .inr (.inl ⟨i, x, a, get_keep b, c, d⟩)
      · exact .inr (.inr h1)
    · rw [List.mem_singleton] at hs; subst hs
      have h4 := (h.ls l hl').2.2.2.1
      exact .inr (.inl ⟨p.toOwner.length, _, by have := hl.2; simp only [PairS.move]; omega, List.getElem?_concat_length, rfl, by omega⟩)
theorem PI.take {p : PairS} (h : PI p) : PI p.take := by
  unfold PairS.take
  split
  · rename_i m hm
    have hmem := List.mem_of_getElem? hm
    have hgl := (List.getElem?_eq_some_iff.1 hm).1
    have hl := h.len
    obtain ⟨o1, o2, o3, o4⟩ := h.ow _ m hm
    have hap := h.apart p.got m (Nat.le_refl _) hm
    refine ⟨?_, ⟨h.bound.1, fun x hx => ?_, h.bound.2.2⟩, ?_, h.own, fun i x hi hx y hy => ?_, h.stn, h.st, ⟨hl.1, hl.2.1, ?_, hl.2.2.2⟩, fun x hx => ?_, h.ow, fun i x hi hx => ?_, fun s hs => ?_, h.app, h.ls, fun l hl' ha s hs => ?_⟩
    · obtain ⟨f, h1, h2, h3, h4⟩ := h.phi
      refine ⟨f, h1, fun x hx => ?_, h3, h4⟩
      rcases List.mem_append.1 hx with hx | hx
      · exact h2 x hx
      · rw [List.mem_singleton] at hx; subst hx; exact h4 x hmem
    · rcases List.mem_append.1 hx with hx | hx
      · exact h.bound.2.1 x hx
      · rw [List.mem_singleton] at hx; subst hx; exact h.bound.2.2.2 x hmem
    · exact nodup_snoc h.scn hap
    · rcases List.mem_append.1 hy with hy | hy
      · exact h.apart i x (by simp only at hi; omega) hx y hy
      · rw [List.mem_singleton] at hy; subst hy
        intro e
        have := h.own _ _ _ _ hm hx e
        simp only at hi; omega
    · simp only; omega
    · rcases List.mem_append.1 hx with hx | hx
      · exact h.sc x hx
      · rw [List.mem_singleton] at hx; subst hx; exact ⟨o1, by simp only; omega, by simp only; omega⟩
    · obtain ⟨y, hy, h1⟩ := h.cl i x hi hx
      exact ⟨y, List.mem_append_left _ hy, h1⟩
    · rcases h.kn s hs with ⟨i, x, h1, h2, h3⟩ | ⟨x, hx, h1⟩
      · by_cases hi : i = p.got
        · subst hi
          rw [hm] at h2; injection h2 with h2; subst h2
          exact .inr ⟨m, List.mem_append_right _ (by simp), h3, o1, fun hw => by rw [o4] at hw; cases hw⟩
        · exact .inl ⟨i, x, by simp only; omega, h2, h3⟩
      · exact .inr ⟨x, List.mem_append_left _ hx, h1⟩
    · rcases h.said l hl' ha s hs with h1 | ⟨i, x, h1, h2, h3, h4⟩ | ⟨x, hx, h1⟩
      · exact .inl h1
      · by_cases hi : i = p.got
        · subst hi
          rw [hm] at h2; injection h2 with h2; subst h2
          exact .inr (.inr ⟨m, List.mem_append_right _ (by simp), h3, .inr (by omega)⟩)
        · exact .inr (.inl ⟨i, x, by simp only; omega, h2, h3, h4⟩)
      · exact .inr (.inr ⟨x, List.mem_append_left _ hx, h1⟩)
  · exact h
theorem dropS_mem {l : List StubE} {m s : Int} {x : StubE} (h : x ∈ dropS l m s) : x ∈ l ∧ ¬ (x.iDMachine = m ∧ x.iDSerial = s) := by
  obtain ⟨h1, h2⟩ := List.mem_filter.1 h
  refine ⟨h1, ?_⟩
  rintro ⟨a, b⟩
  simp [stID, a, b] at h2
theorem PI.later_in {p : PairS} (h : PI p) {k : Nat} (h1 : p.inn ≤ k) (h2 : k ≤ p.out) : PI { p with inn := k } :=
  ⟨h.phi, h.bound, h.scn, h.own, h.apart, h.stn, h.st, ⟨h.len.1, h.len.2.1, h.len.2.2.1, h2⟩, h.sc, h.ow, fun i m hi hm => h.cl i m (Nat.le_trans h1 hi) hm, h.kn, h.app, fun l hl => by obtain ⟨a, b, c, d, e⟩ := h.ls l hl; exact ⟨a, b, Nat.le_trans c h1, d, e⟩, h.said⟩
theorem PI.receive {p : PairS} (h : PI p) : PI p.receive := by
  unfold PairS.receive
  split
  · rename_i m hm
    have hmem := List.mem_of_getElem? hm
    have hml := (List.getElem?_eq_some_iff.1 hm).1
    have hl := h.len
    have hle : p.inn + 1 ≤ p.out := by omega
    split
    · exact h.later_in (by omega) hle
    · have h' : PI { p with inn := p.inn + 1, stubs := dropS p.stubs m.iDMachine m.iDSerial } := (h.later_in (by omega) hle).less List.filter_sublist
      obtain ⟨x, hx, x1, x2, x3, x4⟩ := h.cl p.inn m (Nat.le_refl _) hm
      obtain ⟨f, f1, f2, f3, f4⟩ := h.phi
      have hfm := f3 m hmem
      have hne : ∀ y ∈ dropS p.stubs m.iDMachine m.iDSerial, y.number ≠ m.number := fun y hy he => by
        obtain ⟨h1, h2⟩ := dropS_mem hy
        have := f1 y h1
        rw [he, hfm] at this
        injection this with a b
        exact h2 ⟨a.symm, b.symm⟩
      refine ⟨⟨f, fun s hs => ?_, f2, f3, f4⟩, ⟨fun s hs => ?_, h.bound.2⟩, h.scn, h.own, h.apart, nodup_snoc h'.stn hne, fun s hs => ?_, h'.len, h.sc, h.ow, h'.cl, fun s hs => ?_, h.app, h'.ls, fun l hl' ha s hs => ?_⟩
      · rcases List.mem_append.1 hs with hs | hs
        · exact f1 s (dropS_mem hs).1
        · rw [List.mem_singleton] at hs; subst hs; exact hfm
      · rcases List.mem_append.1 hs with hs | hs
        · exact h'.bound.1 s hs
        · rw [List.mem_singleton] at hs; subst hs; exact h.bound.2.2.1 m hmem
      · rcases List.mem_append.1 hs with hs | hs
        · exact h'.st s hs
        · rw [List.mem_singleton] at hs; subst hs; exact ⟨rfl, rfl, rfl⟩
      · rcases List.mem_append.1 hs with hs | hs
        · exact h'.kn s hs
        · rw [List.mem_singleton] at hs; subst hs; exact .inr ⟨x, hx, x1, x2, fun hw => by rw [x4] at hw; cases hw⟩
      · rcases List.mem_append.1 hs with hs | hs
        · exact h'.said l hl' ha s hs
        · rw [List.mem_singleton] at hs; subst hs
          have := (h.ls l hl').2.2.1
          exact .inr (.inr ⟨x, hx, x1, .inl (by omega)⟩)
  · exact h
theorem build_mem {p : PairS} (h : PI p) {s : StubE} (hs : s ∈ p.stubs) : ∃ e ∈ refBuildL 2 p.stubs, e.number = s.number ∧ e.weak = s.weak := by
  have hb := (build_same 2 p.stubs).1
  have : ∀ (es : List StubE) (A : List ListedE), (∀ y ∈ es, y.owner = 2) → (es.map (·.number)).Nodup → (∀ y ∈ es, ∀ e ∈ A, e.number ≠ y.number) → s ∈ es → listedOf s ∈ es.foldl (addN 2) A := by
    intro es
    induction es with
    | nil => intro A _ _ _ hs; cases hs
    | cons y es ih =>
      intro A ho hn hA hs
      rw [List.map_cons, List.nodup_cons] at hn
      have hadd : addN 2 A y = A ++ [listedOf y] := by
        unfold addN
        rw [if_pos ⟨ho y (by simp), hasN_false.2 fun e he => hA y (by simp) e he⟩]
      rw [List.foldl_cons, hadd]
      have hsub : ∀ (es : List StubE) (A : List ListedE) (x : ListedE), x ∈ A → x ∈ es.foldl (addN 2) A := by
        intro es
        induction es with
        | nil => intro A x h; exact h
        | cons z es ih => intro A x h; rw [List.foldl_cons]; refine ih _ x ?_; unfold addN; split <;> simp [h]
      rcases List.mem_cons.1 hs with rfl | hs
      · exact hsub es _ _ (by simp)
      · refine ih _ (fun z hz => ho z (List.mem_cons_of_mem _ hz)) hn.2 (fun z hz e he => ?_) hs
        rcases List.mem_append.1 he with he | he
        · exact hA z (List.mem_cons_of_mem _ hz) e he
        · rw [List.mem_singleton] at he; subst he
          intro e
          exact hn.1 (List.mem_map.2 ⟨z, hz, e.symm⟩)
  exact ⟨listedOf s, (hb _).1 (this p.stubs [] (fun y hy => (h.st y hy).1) h.stn (fun _ _ e he => by cases he) hs), rfl, rfl⟩
theorem PI.list {p : PairS} (h : PI p) : PI p.list := by
  refine ⟨h.phi, h.bound, h.scn, h.own, h.apart, h.stn, h.st, h.len, h.sc, h.ow, h.cl, h.kn, Nat.le_succ_of_le h.app, fun l hl => ?_, fun l hl ha s hs => ?_⟩
  · rcases List.mem_append.1 hl with hl | hl
    · obtain ⟨a, b, c⟩ := h.ls l hl
      exact ⟨a, by simp only [PairS.list]; omega, c⟩
    · rw [List.mem_singleton] at hl; subst hl
      exact ⟨by simp, Nat.le_refl _, Nat.le_refl _, Nat.le_refl _, (build_same 2 p.stubs).2.1⟩
  · rcases List.mem_append.1 hl with hl | hl
    · exact h.said l hl ha s hs
    · rw [List.mem_singleton] at hl; subst hl
      obtain ⟨e, he, h1, h2⟩ := build_mem h hs
      exact .inl ⟨e, he, h1, fun hw => by rw [← h2]; exact hw⟩
theorem PI.export {p : PairS} (h : PI p) (m s : Int) (hms : m ≠ 1) : PI (p.export m s) := by
  unfold PairS.export
  have hl := h.len
  split
  · split
    · rename_i i hfi _ x hx
      have hm := List.mem_of_getElem? hx
      obtain ⟨f, f1, f2, f3, f4⟩ := h.phi
      have hmp : ((p.scions.set i (x.sentAt (p.out + 1 : Nat))).map (·.number)) = p.scions.map (·.number) := set_map (v := x.sentAt (p.out + 1 : Nat)) (f := fun y : ScionE => y.number) hx rfl
      have hin : x.sentAt (p.out + 1 : Nat) ∈ p.scions.set i (x.sentAt (p.out + 1 : Nat)) := by
        exact List.mem_of_getElem? (i := i) (List.getElem?_set_self (List.getElem?_eq_some_iff.1 hx).1)
      have hst : ∀ y ∈ p.scions, ∃ y' ∈ p.scions.set i (x.sentAt (p.out + 1 : Nat)), y'.number = y.number ∧ y'.client = y.client ∧ y'.inn = y.inn ∧ y.out ≤ y'.out ∧ (y'.weak = true → y.weak = true) := fun y hy => by
        obtain ⟨k, hk⟩ := List.getElem?_of_mem hy
        by_cases hki : k = i
        · subst hki
          rw [hx] at hk; injection hk with hk; subst hk
          exact ⟨_, hin, rfl, rfl, rfl, by have := (h.sc x hm).2.1; simp only [ScionE.sentAt]; omega, fun hw => by cases hw⟩
        · exact ⟨y, List.mem_of_getElem? (i := k) (by rw [List.getElem?_set_ne (fun e => hki e.symm)]; exact hk), rfl, rfl, rfl, Int.le_refl _, id⟩
      refine ⟨⟨f, f1, fun y hy => ?_, fun y hy => ?_, f4⟩, ⟨h.bound.1, fun y hy => ?_, fun y hy => ?_, h.bound.2.2.2⟩, by rw [hmp]; exact h.scn, h.own, fun j y hj hy z hz => ?_, h.stn, h.st, ⟨by simp [hl.1], hl.2.1, hl.2.2.1, by simp only; omega⟩, fun y hy => ?_, h.ow, fun j y hj hy => ?_, fun t ht => ?_, h.app, h.ls, fun l hl' ha t ht => ?_⟩
      · rcases set_mem' hx hy with rfl | hy
        · exact f2 x hm
        · exact f2 y hy
      · rcases List.mem_append.1 hy with hy | hy
        · exact f3 y hy
        · rw [List.mem_singleton] at hy; subst hy; exact f2 x hm
      · rcases set_mem' hx hy with rfl | hy
        · exact h.bound.2.1 x hm
        · exact h.bound.2.1 y hy
      · rcases List.mem_append.1 hy with hy | hy
        · exact h.bound.2.2.1 y hy
        · rw [List.mem_singleton] at hy; subst hy; exact h.bound.2.1 x hm
      · rcases set_mem' hx hz with rfl | hz
        · exact h.apart j y hj hy x hm
        · exact h.apart j y hj hy z hz
      · rcases set_mem' hx hy with rfl | hy
        · have := h.sc x hm; exact ⟨this.1, by simp [ScionE.sentAt], this.2.2⟩
        · have := h.sc y hy; exact ⟨this.1, by simp only; omega, this.2.2⟩
      · rcases get_snoc hy with ⟨hy, _⟩ | ⟨hj', rfl⟩
        · obtain ⟨z, hz, z1, z2, z3, z4⟩ := h.cl j y hj hy
          obtain ⟨z', hz', a, b, _, c, d⟩ := hst z hz
          exact ⟨z', hz', a.trans z1, b.trans z2, Int.le_trans z3 c, by cases hw : z'.weak with | false => rfl | true => rw [d hw] at z4; cases z4⟩
        · exact ⟨_, hin, rfl, (h.sc x hm).1, by simp only [ScionE.sentAt]; omega, rfl⟩
      · rcases h.kn t ht with h1 | ⟨z, hz, h1⟩
        · exact .inl h1
        · obtain ⟨z', hz', a, b, _, _, d⟩ := hst z hz
          exact .inr ⟨z', hz', a.trans h1.num, b.trans h1.client, fun hw => h1.weak (d hw)⟩
      · rcases h.said l hl' ha t ht with h1 | h1 | ⟨z, hz, h1, h2⟩
        · exact .inl h1
        · exact .inr (.inl h1)
        · obtain ⟨z', hz', a, _, b, c, _⟩ := hst z hz
          exact .inr (.inr ⟨z', hz', a.trans h1, by rw [b]; omega⟩)
    · exact h
  · have hn : (expScion (p.next + 1) (p.out + 1) m s).number = 2 * ((p.next : Int) + 1) + 1 := by simp [expScion]
    have hb : ∀ k : Int, k ≤ 2 * p.next + 1 → k ≠ 2 * ((p.next : Int) + 1) + 1 := fun k hk => by omega
    obtain ⟨f, f1, f2, f3, f4⟩ := h.phi
    refine ⟨⟨fun x => if x = 2 * ((p.next : Int) + 1) + 1 then (m, s) else f x, fun t ht => ?_, fun x hx => ?_, fun x hx => ?_, fun x hx => ?_⟩, ⟨fun t ht => ?_, fun x hx => ?_, fun x hx => ?_, fun x hx => ?_⟩, ?_, h.own, fun j y hj hy z hz => ?_, h.stn, h.st, ⟨by simp [hl.1], hl.2.1, hl.2.2.1, by simp only; omega⟩, fun y hy => ?_, h.ow, fun j y hj hy => ?_, fun t ht => ?_, h.app, h.ls, fun l hl' ha t ht => ?_⟩
    · rw [phi_new (hb _ (h.bound.1 t ht))]; exact f1 t ht
    · rcases List.mem_append.1 hx with hx | hx
      · rw [phi_new (hb _ (h.bound.2.1 x hx))]; exact f2 x hx
      · rw [List.mem_singleton] at hx; subst hx; simp [expScion]
    · rcases List.mem_append.1 hx with hx | hx
      · rw [phi_new (hb _ (h.bound.2.2.1 x hx))]; exact f3 x hx
      · rw [List.mem_singleton] at hx; subst hx; simp [expScion]
    · rw [phi_new (hb _ (h.bound.2.2.2 x hx))]; exact f4 x hx
    · have := h.bound.1 t ht; simp only; omega
    · rcases List.mem_append.1 hx with hx | hx
      · have := h.bound.2.1 x hx; simp only; omega
      · rw [List.mem_singleton] at hx; subst hx; rw [hn]; simp
    · rcases List.mem_append.1 hx with hx | hx
      · have := h.bound.2.2.1 x hx; simp only; omega
      · rw [List.mem_singleton] at hx; subst hx; rw [hn]; simp
    · have := h.bound.2.2.2 x hx; simp only; omega
    · exact nodup_snoc h.scn fun y hy => by rw [hn]; exact hb _ (h.bound.2.1 y hy)
    · rcases List.mem_append.1 hz with hz | hz
      · exact h.apart j y hj hy z hz
      · rw [List.mem_singleton] at hz; subst hz; rw [hn]; exact fun e => hb _ (h.bound.2.2.2 y (List.mem_of_getElem? hy)) e.symm
    · rcases List.mem_append.1 hy with hy | hy
      · have := h.sc y hy; exact ⟨this.1, by simp only; omega, this.2.2⟩
      · rw [List.mem_singleton] at hy; subst hy; exact ⟨rfl, by simp [expScion], by simp [expScion]⟩
    · rcases get_snoc hy with ⟨hy, _⟩ | ⟨hj', rfl⟩
      · obtain ⟨z, hz, z1⟩ := h.cl j y hj hy
        exact ⟨z, List.mem_append_left _ hz, z1⟩
      · exact ⟨_, List.mem_append_right _ (List.mem_singleton.2 rfl), rfl, rfl, by simp only [expScion]; omega, rfl⟩
    · rcases h.kn t ht with h1 | ⟨z, hz, h1⟩
      · exact .inl h1
      · exact .inr ⟨z, List.mem_append_left _ hz, h1⟩
    · rcases h.said l hl' ha t ht with h1 | h1 | ⟨z, hz, h1⟩
      · exact .inl h1
      · exact .inr (.inl h1)
      · exact .inr (.inr ⟨z, List.mem_append_left _ hz, h1⟩)
theorem nodup_eq {α : Type} {f : α → Int} : ∀ {l : List α}, (l.map f).Nodup → ∀ {x y : α}, x ∈ l → y ∈ l → f x = f y → x = y
  | [], _, x, _, hx, _, _ => by cases hx
  | z :: l, h, x, y, hx, hy, he => by
    rw [List.map_cons, List.nodup_cons] at h
    rcases List.mem_cons.1 hx with e1 | h1
    · rcases List.mem_cons.1 hy with e2 | h2
      · rw [e1, e2]
      · exact absurd (List.mem_map.2 ⟨y, h2, by rw [← he, e1]⟩) h.1
    · rcases List.mem_cons.1 hy with e2 | h2
      · exact absurd (List.mem_map.2 ⟨x, h1, by rw [he, e2]⟩) h.1
      · exact nodup_eq h.2 h1 h2 he
structure Like (x y : ScionE) : Prop where
  num : y.number = x.number
  client : y.client = x.client
  out : y.out = x.out
  inn : y.inn = x.inn
  m : y.iDMachine = x.iDMachine
  s : y.iDSerial = x.iDSerial
theorem keep1_like {l : List ListedE} {r s : Int} {x y : ScionE} (h : keep1 l r s x = some y) : Like x y := by
  unfold keep1 at h
  split at h
  · injection h with h; subst h; exact ⟨rfl, rfl, rfl, rfl, rfl, rfl⟩
  · split at h
    · cases h
    · injection h with h; subst h; exact ⟨rfl, rfl, rfl, rfl, rfl, rfl⟩
theorem keep_unsettled {l : List ListedE} {r s : Int} {x : ScionE} (h : settledB r s x = false) : ∃ y, keep1 l r s x = some y ∧ (y.weak = true → x.weak = true) := by
  unfold keep1
  split
  · refine ⟨_, rfl, fun hw => ?_⟩
    simp only [ScionE.upd, h, Bool.or_false, Bool.and_eq_true] at hw
    exact hw.2
  · rw [h]; exact ⟨x, by simp, id⟩
theorem settled_false {r s : Int} {x : ScionE} (h : r < x.out ∨ s < x.inn) : settledB r s x = false := by
  unfold settledB
  rw [Bool.and_eq_false_iff, decide_eq_false_iff_not, decide_eq_false_iff_not]
  omega
theorem findL_mem {l : List ListedE} {e : ListedE} (hs : StrictL l) (he : e ∈ l) : findL l e.number = some e := by
  unfold findL
  induction l with
  | nil => cases he
  | cons y l ih =>
    obtain ⟨h1, h2⟩ := List.pairwise_cons.1 hs
    rw [List.find?_cons]
    rcases List.mem_cons.1 he with rfl | he
    · simp
    · have := h1 e he
      have hne : decide (y.number = e.number) = false := by simp; omega
      rw [hne]; exact ih h2 he
theorem keep_listed {l : List ListedE} {r s : Int} {x : ScionE} {e : ListedE} (hs : StrictL l) (he : e ∈ l) (hn : e.number = x.number) : keep1 l r s x = some (x.upd e (settledB r s x)) := by
  unfold keep1
  rw [← hn, findL_mem hs he]
theorem PI.survive {p : PairS} (h : PI p) {l : LP} (hl : l ∈ p.lists) (ha : p.applied < l.round) {s : StubE} (hs : s ∈ p.stubs) {x : ScionE} (hx : x ∈ p.scions) (hx' : Ans s x) :
    ∃ y, keep1 l.entries l.received l.sent x = some y ∧ Ans s y := by
  rcases h.said l hl ha s hs with ⟨e, he, h1, h2⟩ | ⟨i, z, h1, h2, h3, _⟩ | ⟨z, hz, h1, h2⟩
  · refine ⟨_, keep_listed (h.ls l hl).2.2.2.2 he (h1.trans hx'.num.symm), hx'.num, hx'.client, fun hw => ?_⟩
    simp only [ScionE.upd, Bool.and_eq_true] at hw
    exact h2 hw.1
  · exact absurd (hx'.num.trans h3.symm) (h.apart i z h1 h2 x hx)
  · obtain rfl : z = x := nodup_eq h.scn hz hx (h1.trans hx'.num.symm)
    obtain ⟨y, hy, hw⟩ := keep_unsettled (l := l.entries) (settled_false h2)
    have k := keep1_like hy
    exact ⟨y, hy, k.num.trans hx'.num, k.client.trans hx'.client, fun h => hx'.weak (hw h)⟩
theorem kept_in {l : List ListedE} {r s : Int} {xs : List ScionE} {x y : ScionE} (hx : x ∈ xs) (h : keep1 l r s x = some y) : y ∈ keptL l r s xs := List.mem_filterMap.2 ⟨x, hx, h⟩
theorem kept_nodup {l : List ListedE} {r s : Int} {xs : List ScionE} (h : (xs.map (·.number)).Nodup) : ((keptL l r s xs).map (·.number)).Nodup := by
  refine List.pairwise_map.2 (List.pairwise_filterMap.2 ((List.pairwise_map.1 h).imp fun {a b} hab y hy z hz => ?_))
  rw [(keep1_like hy).num, (keep1_like hz).num]; exact hab
theorem PI.apply {p : PairS} (h : PI p) (n : Nat) : PI (p.apply n) := by
  unfold PairS.apply
  split
  · rename_i l hl
    have hlm := List.mem_of_getElem? hl
    split
    · rename_i hr
      obtain ⟨_, _, _, ha, hsent⟩ := hr
      obtain ⟨l1, l2, l3, l4, l5⟩ := h.ls l hlm
      obtain ⟨f, f1, f2, f3, f4⟩ := h.phi
      have hk : ∀ y ∈ keptL l.entries l.received l.sent p.scions, ∃ x ∈ p.scions, Like x y := fun y hy => by
        obtain ⟨x, hx, hxy⟩ := List.mem_filterMap.1 hy
        exact ⟨x, hx, keep1_like hxy⟩
      refine ⟨⟨f, f1, fun y hy => ?_, f3, f4⟩, ⟨h.bound.1, fun y hy => ?_, h.bound.2.2⟩, kept_nodup h.scn, h.own, fun i z hi hz y hy => ?_, h.stn, h.st, h.len, fun y hy => ?_, h.ow, fun i m hi hm => ?_, fun s hs => ?_, l2, h.ls, fun k hk' hak s hs => ?_⟩
      · obtain ⟨x, hx, k⟩ := hk y hy
        rw [k.num, k.m, k.s]; exact f2 x hx
      · obtain ⟨x, hx, k⟩ := hk y hy
        rw [k.num]; exact h.bound.2.1 x hx
      · obtain ⟨x, hx, k⟩ := hk y hy
        rw [k.num]; exact h.apart i z hi hz x hx
      · obtain ⟨x, hx, k⟩ := hk y hy
        rw [k.client, k.out, k.inn]; exact h.sc x hx
      · have hi' : p.inn ≤ i := hi
        obtain ⟨x, hx, x1, x2, x3, x4⟩ := h.cl i m hi hm
        obtain ⟨y, hy, hw⟩ := keep_unsettled (l := l.entries) (r := l.received) (s := l.sent) (x := x) (settled_false (.inl (by omega)))
        have k := keep1_like hy
        refine ⟨y, kept_in hx hy, k.num.trans x1, k.client.trans x2, by rw [k.out]; exact x3, ?_⟩
        cases hyw : y.weak with
        | false => rfl
        | true => rw [hw hyw] at x4; cases x4
      · rcases h.kn s hs with h1 | ⟨x, hx, h1⟩
        · exact .inl h1
        · obtain ⟨y, hy, h2⟩ := h.survive hlm ha hs hx h1
          exact .inr ⟨y, kept_in hx hy, h2⟩
      · have hak' : l.round < k.round := hak
        rcases h.said k hk' (by omega) s hs with h1 | h1 | ⟨x, hx, h1, h2⟩
        · exact .inl h1
        · exact .inr (.inl h1)
        · rcases h.kn s hs with ⟨i, z, a, b, c⟩ | ⟨x', hx', h3⟩
          · exact absurd (h1.trans c.symm) (h.apart i z a b x hx)
          · obtain rfl : x' = x := nodup_eq h.scn hx' hx (h3.num.trans h1.symm)
            obtain ⟨y, hy, _⟩ := h.survive hlm ha hs hx h3
            have k' := keep1_like hy
            exact .inr (.inr ⟨y, kept_in hx hy, k'.num.trans h1, by rw [k'.out, k'.inn]; exact h2⟩)
    · exact h
  · exact h
/-! What the laws ask. -/
def movB (p : PairS) (s : StubE) : Bool := (p.toOwner.drop p.got).any fun x => x.number == s.number
def knownL (p : PairS) : List StubE := (p.stubs.filter fun s => !movB p s) ++ (p.toClient.drop p.inn).map newStub
theorem PI.safe {p : PairS} (h : PI p) : ∀ s ∈ knownL p, s.owner = 2 ∧ s.dead = false ∧ ∃ x ∈ p.scions, x.client = 1 ∧ x.number = s.number ∧ x.iDMachine = s.iDMachine ∧ x.iDSerial = s.iDSerial ∧ (x.weak = true → s.weak = true) := by
  intro s hs
  obtain ⟨f, f1, f2, f3, f4⟩ := h.phi
  rcases List.mem_append.1 hs with hs | hs
  · obtain ⟨hs, hm⟩ := List.mem_filter.1 hs
    obtain ⟨a, _, b⟩ := h.st s hs
    refine ⟨a, b, ?_⟩
    rcases h.kn s hs with ⟨i, x, h1, h2, h3⟩ | ⟨x, hx, h1⟩
    · have : movB p s = true := List.any_eq_true.2 ⟨x, List.mem_of_getElem? (i := i - p.got) (by rw [List.getElem?_drop, show p.got + (i - p.got) = i by omega]; exact h2), by simpa using h3⟩
      rw [this] at hm; cases hm
    · have e1 := f1 s hs
      have e2 := f2 x hx
      rw [h1.num, e1] at e2
      injection e2 with e3 e4
      exact ⟨x, hx, h1.client, h1.num, e3.symm, e4.symm, h1.weak⟩
  · obtain ⟨m, hm, rfl⟩ := List.mem_map.1 hs
    obtain ⟨k, hk⟩ := List.getElem?_of_mem hm
    rw [List.getElem?_drop] at hk
    obtain ⟨x, hx, x1, x2, _, x4⟩ := h.cl _ m (by omega) hk
    have e1 := f3 m (List.mem_of_getElem? hk)
    have e2 := f2 x hx
    rw [x1, e1] at e2
    injection e2 with e3 e4
    exact ⟨rfl, rfl, x, hx, x2, x1, e3.symm, e4.symm, fun hw => by rw [x4] at hw; cases hw⟩
theorem build_len : ∀ (es : List StubE) (l : List ListedE), (es.foldl (fun l e => if e.owner = 2 then putL l (listedOf e) else l) l).length ≤ l.length + es.length
  | [], l => by simp
  | e :: es, l => by
    have h := build_len es (if e.owner = 2 then putL l (listedOf e) else l)
    have h2 : (if e.owner = 2 then putL l (listedOf e) else l).length ≤ l.length + 1 := by
      split
      · exact putL_len _ _
      · omega
    simp only [List.foldl_cons, List.length_cons]; omega
theorem build_of {p : PairS} (h : PI p) {e : ListedE} (he : e ∈ refBuildL 2 p.stubs) : ∃ s ∈ p.stubs, e = listedOf s := by
  have hb := (build_same 2 p.stubs).1 e
  have : ∀ (es : List StubE) (A : List ListedE), e ∈ es.foldl (addN 2) A → e ∈ A ∨ ∃ s ∈ es, e = listedOf s := by
    intro es
    induction es with
    | nil => intro A h; exact .inl h
    | cons y es ih =>
      intro A h
      rcases ih _ h with h1 | ⟨s, hs, h1⟩
      · unfold addN at h1
        split at h1
        · rcases List.mem_append.1 h1 with h1 | h1
          · exact .inl h1
          · exact .inr ⟨y, by simp, by simpa using h1⟩
        · exact .inl h1
      · exact .inr ⟨s, List.mem_cons_of_mem _ hs, h1⟩
  rcases this p.stubs [] (hb.2 he) with h1 | h1
  · cases h1
  · exact h1
theorem PI.gone {p : PairS} (h : PI p) (hg : p.got = p.sent) (hi : p.inn = p.out) (hn : p.stubs.length ≤ 1024) :
    readyP p.list ⟨p.round + 1, p.sent, p.inn, refBuildL 2 p.stubs⟩ ∧
    (∀ y ∈ keptL (refBuildL 2 p.stubs) p.inn p.sent p.scions, ∃ s ∈ p.stubs, s.number = y.number ∧ s.weak = y.weak) ∧ (keptL (refBuildL 2 p.stubs) p.inn p.sent p.scions).length = p.stubs.length := by
  have hstr := (build_same 2 p.stubs).2.1
  have hset : ∀ x ∈ p.scions, settledB p.inn p.sent x = true := fun x hx => by
    obtain ⟨_, a, b⟩ := h.sc x hx
    unfold settledB
    simp only [Bool.and_eq_true, decide_eq_true_eq]
    omega
  have hsome : ∀ x ∈ p.scions, ∀ y, keep1 (refBuildL 2 p.stubs) p.inn p.sent x = some y → ∃ s ∈ p.stubs, s.number = y.number ∧ s.weak = y.weak := fun x hx y hy => by
    unfold keep1 at hy
    split at hy
    · rename_i e he
      have hem := List.mem_of_find?_eq_some he
      have hen : e.number = x.number := by simpa using List.find?_some he
      obtain ⟨s, hs, rfl⟩ := build_of h hem
      injection hy with hy; subst hy
      refine ⟨s, hs, hen, ?_⟩
      simp [ScionE.upd, hset x hx, listedOf]
    · rw [hset x hx] at hy; cases hy
  refine ⟨⟨?_, ?_, by simp, by have := h.app; simp only [PairS.list]; omega, by simp only [PairS.list]; omega⟩, fun y hy => ?_, ?_⟩
  · have := build_len p.stubs []
    simp only [List.length_nil] at this
    show (refBuildL 2 p.stubs).length ≤ 1024
    unfold refBuildL; omega
  · refine okB_of_strict hstr fun e he => ?_
    obtain ⟨s, hs, rfl⟩ := build_of h he
    have := (h.st s hs).2.1
    simp [listedOf, this]
  · obtain ⟨x, hx, hxy⟩ := List.mem_filterMap.1 hy
    exact hsome x hx y hxy
  · have n1 := kept_nodup (l := refBuildL 2 p.stubs) (r := p.inn) (s := p.sent) h.scn
    have n2 := h.stn
    have hm : ∀ n, n ∈ (keptL (refBuildL 2 p.stubs) p.inn p.sent p.scions).map (·.number) ↔ n ∈ p.stubs.map (·.number) := fun n => by
      constructor
      · intro hn'
        obtain ⟨y, hy, rfl⟩ := List.mem_map.1 hn'
        obtain ⟨x, hx, hxy⟩ := List.mem_filterMap.1 hy
        obtain ⟨s, hs, h1, _⟩ := hsome x hx y hxy
        exact List.mem_map.2 ⟨s, hs, h1⟩
      · intro hn'
        obtain ⟨s, hs, rfl⟩ := List.mem_map.1 hn'
        rcases h.kn s hs with ⟨i, x, h1, h2, _⟩ | ⟨x, hx, h1⟩
        · have := (List.getElem?_eq_some_iff.1 h2).1
          have := h.len
          omega
        · obtain ⟨e, he, h2, _⟩ := build_mem h hs
          have hk := keep_listed (r := p.inn) (s := p.sent) hstr he (h2.trans h1.num.symm)
          exact List.mem_map.2 ⟨_, kept_in hx hk, h1.num⟩
    have := ((List.perm_ext_iff_of_nodup n1 n2).2 hm).length_eq
    simpa using this
end Go.Proofs.Ythigjlllhnajbaa

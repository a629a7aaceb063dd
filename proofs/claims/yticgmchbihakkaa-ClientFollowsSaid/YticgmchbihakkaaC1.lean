/- What is proved of the reader, the batches and their bytes, said by separation. -/
import Derived.Test.YticgmchbihakkaaB12
import Derived.Test.YticgmchbihakkaaS3
set_option linter.unusedVariables false
set_option linter.unusedSimpArgs false
namespace Go.Proofs.Yticgmchbihakkaa
open Go Go.Den
set_option maxRecDepth 100000

theorem agr_fr {I : Nat → Prop} {w w' : World} (k : Agr I w w') : Fr (fun b => ¬ I b) w w' := k.fr fun _ _ h => h
theorem apart_not (w : World) (I : Nat → Prop) : Apart w I (fun b => ¬ I b) := fun _ _ h h' => h' h

/-- Bytes that are read. -/
def byt (v : Value) (xs : Bytes) : PP := ⟨fun w I => IsBD w I v xs, fun h k => h.fr (agr_fr k) (apart_not _ _), fun h k => h.mono k⟩
def recR : Rp Rec := ⟨47, 6, fun w I cs r => IsRec w I cs r, fun h k => h.fr (agr_fr k) (apart_not _ _), fun h k => h.mono k, fun h => h.len, fun {w I cs r} h => RecCells.one (rs := [r]) (l := cs) ⟨cs, [], by simp, h, rfl⟩, by decide⟩
def bat (v : Value) (b : Bat) : PP := ⟨fun w I => IsBat w I v b, fun h k => h.fr (agr_fr k) (apart_not _ _), fun h k => h.mono k⟩

theorem recCells_iff {w : World} {I : Nat → Prop} : ∀ {rs : List Rec} {l : List Value}, RecCells w I rs l ↔ recR.cells w I rs l
  | [], l => Iff.rfl
  | r :: rs, l => by
    simp only [RecCells, Rp.cells]
    constructor
    · rintro ⟨cs, l', h1, h2, h3⟩; exact ⟨cs, l', h1, h2, recCells_iff.1 h3⟩
    · rintro ⟨cs, l', h1, h2, h3⟩; exact ⟨cs, l', h1, h2, recCells_iff.2 h3⟩
theorem isRecs_iff {w : World} {I : Nat → Prop} {v : Value} {rs : List Rec} : IsRecs w I v rs ↔ (recR.sl v rs).ok w I := by
  show _ ↔ Rp.slOk recR v rs w I
  unfold IsRecs Rp.slOk
  simp only [recCells_iff]

/-- A reader. -/
def rdr (a : Nat) (xs : Bytes) (e : Nat) : HP := ⟨fun w I D => ∃ G, IsR w a G xs e ∧ D a ∧ ∀ b, G = some b → D b,
  fun ⟨G, h, h1, h2⟩ k1 k2 => ⟨G, h.fr (agr_fr k2) (fun h' => h' h1) fun b hb _ h' => h' (h2 b hb), h1, h2⟩,
  fun ⟨G, h, h1, h2⟩ k1 k2 => ⟨G, h, k2 a h.lt h1, fun b hb => k2 b (h.ltG b hb) (h2 b hb)⟩⟩
/-- A writer. -/
def wr (a : Nat) (xs : Bytes) (bad : Bool) : HP := ⟨fun w I D => ∃ sl, w.heap[a]? = some (.cells #[sl, .bool bad] 214 (0, 0)) ∧ OwnB w 5 sl xs ∧ D a ∧ ∀ b, sl.ownBlock = some b → D b,
  fun ⟨sl, h1, h2, h3, h4⟩ k1 k2 => ⟨sl, k2.blk h1 h3, h2.fr (agr_fr k2) fun b hb _ h' => h' (h4 b hb), h3, h4⟩,
  fun ⟨sl, h1, h2, h3, h4⟩ k1 k2 => ⟨sl, h1, h2, k2 a (lt_of_blk h1) h3, fun b hb => k2 b (Own.lt h2 b hb) (h4 b hb)⟩⟩
/-- Bytes that are owned. -/
def ownB (v : Value) (xs : Bytes) : HP := ⟨fun w I D => OwnB w 5 v xs ∧ ∀ b, v.ownBlock = some b → D b,
  fun ⟨h1, h2⟩ k1 k2 => ⟨h1.fr (agr_fr k2) fun b hb _ h' => h' (h2 b hb), h2⟩, fun ⟨h1, h2⟩ k1 k2 => ⟨h1, fun b hb => k2 b (Own.lt h1 b hb) (h2 b hb)⟩⟩

section
variable {Γ : List PP} {L : List HP} {w : World}

/-- New things that no one turns. -/
theorem _root_.Go.Den.Sat.newp (h : Sat Γ L w) {w' : World} (hf : Fr None w w') {p : PP} (hp : ∀ I : Nat → Prop, p.ok w' fun b => I b ∨ w.heap.size ≤ b) : Sat (p :: Γ) L w' := by
  obtain ⟨I, h1, h2, h3⟩ := h.push
  have h4 := h3 w' (.ofP p) (fun b => w.heap.size ≤ b ∧ b < w'.heap.size) hf (p.mono (hp I) fun b hb h => h.imp id fun h => ⟨h, hb⟩) fun b hb => ⟨hb.2, hb.1⟩
  exact (h4.freeze (k := 0) rfl fun _ _ h => h).drop
theorem _root_.Go.Den.Sat.byt (h : Sat Γ L w) {v : Value} {xs : Bytes} (hm : byt v xs ∈ Γ) : ∃ G, IsB w v G xs := by
  obtain ⟨I, _, G, h1, _⟩ := h.pers hm
  exact ⟨G, h1⟩
theorem _root_.Go.Den.Sat.bytVal (h : Sat Γ L w) {v : Value} {xs : Bytes} (hm : Yticgmchbihakkaa.byt v xs ∈ Γ) : ∃ A c, v = .slice A xs.length c ∧ xs.length ≤ c ∧ c ≤ maxLen := by
  obtain ⟨G, h1⟩ := h.byt hm
  obtain ⟨A, c, e, _, _, h2, h3⟩ := h1.val
  exact ⟨A, c, e, h2, h3⟩
theorem _root_.Go.Den.Sat.bytUpto (h : Sat Γ L w) {A : Option Addr} {n c : Nat} {xs : Bytes} (hm : Yticgmchbihakkaa.byt (.slice A n c) xs ∈ Γ) (k : Nat) (hk : k ≤ n) : Sat (Yticgmchbihakkaa.byt (.slice A k c) (xs.take k) :: Γ) L w :=
  h.der hm fun I ⟨G, h1, h2⟩ => ⟨G, h1.upto k hk, h2⟩
theorem _root_.Go.Den.Sat.bytFrom (h : Sat Γ L w) {A : Option Addr} {n c : Nat} {xs : Bytes} (hm : Yticgmchbihakkaa.byt (.slice A n c) xs ∈ Γ) (k : Nat) (hk : k ≤ n) : Sat (Yticgmchbihakkaa.byt (.slice (if c = k then A else A.map (·.add (k * 1))) (n - k) (c - k)) (xs.drop k) :: Γ) L w :=
  h.der hm fun I ⟨G, h1, h2⟩ => ⟨G, h1.from k hk, h2⟩
theorem _root_.Go.Den.Sat.bytNil (h : Sat Γ L w) : Sat (Yticgmchbihakkaa.byt (.slice none 0 0) [] :: Γ) L w := h.addp fun I _ _ => ⟨none, .nil _, by simp⟩
theorem _root_.Go.Den.Sat.bytAt (h : Sat Γ L w) {A : Option Addr} {n c : Nat} {xs : Bytes} (hm : Yticgmchbihakkaa.byt (.slice A n c) xs ∈ Γ) (i : Nat) (hi : i < n) : ∃ a x, A = some a ∧ xs[i]? = some x ∧ w.cell? (a.add (i * 1)) = some (bv x) := by
  obtain ⟨G, h1⟩ := h.byt hm
  exact h1.at i hi

/-- Bytes of one's own. -/
theorem _root_.Go.Den.Sat.bytOwn {b : Nat} (h : Sat Γ (.blk b [] 5 :: L) w) : Sat Γ (ownB (.slice (some ⟨b, 0, none⟩) 0 0) [] :: L) w :=
  h.conv (k := 0) (P' := ownB (.slice (some ⟨b, 0, none⟩) 0 0) []) rfl fun I E _ ⟨h1, h2⟩ => ⟨⟨rfl, .inr ⟨b, 0, #[], rfl, Nat.zero_le _, h2, Nat.le_refl _, by simp [maxLen], rfl, rfl⟩⟩, fun c hc => by cases hc; exact h1⟩
theorem _root_.Go.Den.Sat.bytOwnNil (h : Sat Γ L w) : Sat Γ (ownB (.slice none 0 0) [] :: L) w := by
  obtain ⟨I, h1, h2, h3⟩ := h.push
  exact h3 w _ (fun _ => False) (Fr.refl _ _) ⟨Own.nil _ _ _, fun b hb => by cases hb⟩ fun _ h => h.elim
theorem _root_.Go.Den.Sat.bytOwnVal (h : Sat Γ L w) {k : Nat} {v : Value} {xs : Bytes} (hk : L[k]? = some (ownB v xs)) : ∃ A c, v = .slice A xs.length c ∧ xs.length ≤ c ∧ c ≤ maxLen := by
  obtain ⟨I, E, _, _, _, ⟨h1, _⟩, _⟩ := h.turn hk
  obtain ⟨A, c, e, _, _, h2, h3⟩ := h1.slice
  exact ⟨A, c, e, h2, h3⟩
theorem _root_.Go.Den.Sat.bytFreeze (h : Sat Γ L w) {k : Nat} {v : Value} {xs : Bytes} (hk : L[k]? = some (ownB v xs)) : Sat (Yticgmchbihakkaa.byt v xs :: Γ) (L.set k .emp) w :=
  h.freeze hk fun I E ⟨h1, h2⟩ => ⟨_, .of h1, fun b hb => .inr (h2 b hb)⟩
theorem _root_.Go.Den.Sat.apBytes (h : Sat Γ L w) {k : Nat} {v : Value} {xs ys : Bytes} (hk : L[k]? = some (ownB v xs)) {A : Option Addr} {n c : Nat} (hy : Yticgmchbihakkaa.byt (.slice A n c) ys ∈ Γ) (hm : xs.length + n ≤ 140737488355327) {ty : Nat} {K : Value → World → Prop}
    (hK : ∀ A' c' w', Sat Γ (L.set k (ownB (.slice A' (xs.length + n) c') (xs ++ ys))) w' → K (.slice A' (xs.length + n) c') w') : runD Try.prog (Builtin.append_ #[22, 22] ty #[v, .slice A n c]) w K := by
  obtain ⟨I, E, h1, h2, h3, ⟨g1, g2⟩, h5, h6⟩ := h.turn hk
  obtain ⟨G, i1, i2⟩ := h5 _ hy
  obtain ⟨A0, c0, e0, j1, j2, j3, j4⟩ := i1.val
  cases e0
  obtain ⟨A', c', w', r1, r2, r3, r4⟩ := ap_bytes byteTy g1 (m := ys.length) (c := c) j2 j1 hm ty
  refine ⟨_, w', r1, hK _ _ _ (h6 w' _ (fun b => (Value.slice A' (xs.length + ys.length) c').ownBlock = some b) (r3.mono fun b _ hb => g2 b hb) ⟨r2, fun b hb => hb⟩ ?_)⟩
  intro b hb
  refine ⟨Own.lt r2 b hb, ?_⟩
  rcases r4 with r4 | r4
  · exact .inl (g2 b (r4 ▸ hb))
  · rw [r4] at hb; have : w.heap.size = b := Option.some.inj hb; omega
theorem _root_.Go.Den.Sat.apByte (h : Sat Γ L w) {k j : Nat} {v : Value} {xs : Bytes} (hk : L[k]? = some (ownB v xs)) {bx : Nat} {x : UInt8} {u : Value} (hu : u = bv x) (hj : L[j]? = some (.blk bx [u] 5)) (hm : xs.length ≤ 140737488355327) {ty : Nat} {K : Value → World → Prop}
    (hK : ∀ A' c' w', Sat Γ (L.set k (ownB (.slice A' (xs.length + 1) c') (xs ++ [x]))) w' → K (.slice A' (xs.length + 1) c') w') : runD Try.prog (Builtin.append_ #[22, 22] ty #[v, .slice (some ⟨bx, 0, none⟩) 1 1]) w K := by
  have hb := h.blk hj
  obtain ⟨I, E, h1, h2, h3, ⟨g1, g2⟩, h5, h6⟩ := h.turn hk
  obtain ⟨A', c', w', r1, r2, r3, r4⟩ := ap_byte byteTy g1 hu hb hm ty
  refine ⟨_, w', r1, hK _ _ _ (h6 w' _ (fun b => (Value.slice A' (xs.length + 1) c').ownBlock = some b) (r3.mono fun b _ hb => g2 b hb) ⟨by simpa using r2, fun b hb => hb⟩ ?_)⟩
  intro b hb
  refine ⟨Own.lt r2 b hb, ?_⟩
  rcases r4 with r4 | r4
  · exact .inl (g2 b (r4 ▸ hb))
  · rw [r4] at hb; have : w.heap.size = b := Option.some.inj hb; omega

/-! ### The reader -/

theorem c88 (h : Sat Γ L w) {v : Value} {xs : Bytes} (hv : byt v xs ∈ Γ) (hl : xs.length ≤ 100000000000) : Meets Try.prog 88 [v] w fun v' w' => ∃ a, v' = ptr a ∧ Sat Γ (rdr a xs 0 :: L) w' := by
  obtain ⟨G, h1⟩ := h.byt hv
  refine (f88 w v G xs h1 hl).mono ?_
  rintro v' w' ⟨a, G', e, r, f, la, lg⟩
  obtain ⟨I, h1, h2, h3⟩ := h.push
  exact ⟨a, e, h3 w' (rdr a xs 0) (fun b => w.heap.size ≤ b ∧ b < w'.heap.size) f ⟨G', r, ⟨la, r.lt⟩, fun b hb => ⟨lg b hb, r.ltG b hb⟩⟩ fun b hb => ⟨hb.2, hb.1⟩⟩
theorem c92 (h : Sat Γ L w) {k a e : Nat} {xs : Bytes} (hk : L[k]? = some (rdr a xs e)) : Meets Try.prog 92 [ptr a] w fun v' w' => v' = vi e ∧ w' = w := by
  obtain ⟨I, E, _, _, _, ⟨G, h1, _⟩, _⟩ := h.turn hk
  exact f92 w a G xs e h1
theorem c93 (h : Sat Γ L w) {k a e : Nat} {xs : Bytes} (hk : L[k]? = some (rdr a xs e)) : Meets Try.prog 93 [ptr a] w fun v' w' => v' = vi (if e = 0 then xs.length else 0 : Nat) ∧ w' = w := by
  obtain ⟨I, E, _, _, _, ⟨G, h1, _⟩, _⟩ := h.turn hk
  exact f93 w a G xs e h1
/-- A reader is turned. -/
theorem rdr_turn (h : Sat Γ L w) {k a e : Nat} {xs : Bytes} (hk : L[k]? = some (rdr a xs e)) : ∃ G, IsR w a G xs e ∧ ∀ w' xs' e', IsR w' a G xs' e' → Fr (· = a) w w' → Sat Γ (L.set k (rdr a xs' e')) w' := by
  obtain ⟨I, E, h1, h2, h3, ⟨G, g1, g2, g3⟩, h5, h6⟩ := h.turn hk
  exact ⟨G, g1, fun w' xs' e' r f => h6 w' _ E (f.mono fun b _ e => by subst e; exact g2) ⟨G, r, g2, g3⟩ fun b hb => ⟨Nat.lt_of_lt_of_le (h2 b hb) f.size, .inl hb⟩⟩
theorem c116 (h : Sat Γ L w) {k a e size : Nat} {xs : Bytes} (hk : L[k]? = some (rdr a xs e)) (h1 : 1 ≤ size) (h8 : size ≤ 8) (hl : xs.length ≤ 100000000000) {q : Nat × Bytes × Nat} (hq : rFix (xs, e) size = q) :
    Meets Try.prog 116 [ptr a, vi size] w fun v' w' => v' = vi q.1 ∧ Sat Γ (L.set k (rdr a q.2.1 q.2.2)) w' := by
  subst hq
  obtain ⟨G, g1, g2⟩ := rdr_turn h hk
  refine (f116 w a G xs e size g1 h1 h8 hl).mono ?_
  rintro v' w' ⟨e', r, f⟩
  exact ⟨e', g2 _ _ _ r f⟩
theorem c90 (h : Sat Γ L w) {k a e : Nat} {xs : Bytes} (hk : L[k]? = some (rdr a xs e)) {q : Int × Bytes × Nat} (hq : rNum (xs, e) = q) :
    Meets Try.prog 90 [ptr a] w fun v' w' => v' = vi q.1 ∧ Sat Γ (L.set k (rdr a q.2.1 q.2.2)) w' := by
  subst hq
  obtain ⟨G, g1, g2⟩ := rdr_turn h hk
  refine (f90 w a G xs e g1).mono ?_
  rintro v' w' ⟨e', r, f⟩
  exact ⟨e', g2 _ _ _ r f⟩
/-- A batch that may be. -/
def batO (us : List Value) (R : Option Bat) : PP := ⟨fun w I => ∀ b, R = some b → IsBat w I (.agg us.toArray) b, fun h k b hb => (h b hb).fr (agr_fr k) (apart_not _ _), fun h k b hb => (h b hb).mono k⟩
theorem _root_.Go.Den.Sat.batO (h : Sat Γ L w) {us : List Value} {b : Bat} (hm : batO us (some b) ∈ Γ) : ∃ rv, us = [vi b.base, vi b.last, vi b.prod, vi b.epoch, vi b.seq, rv] ∧ Sat (recR.sl rv b.recs :: bat (.agg us.toArray) b :: Γ) L w := by
  obtain ⟨ow, h1, h2, h3⟩ := h.ex
  have hb := h2 _ hm b rfl
  obtain ⟨rv, e, hr⟩ := id hb
  have e' := congrArg Array.toList (Value.agg.inj e)
  simp only [List.toList_toArray] at e'
  refine ⟨rv, e', ow, h1, fun q hq => ?_, h3⟩
  rcases List.mem_cons.1 hq with rfl | hq
  · exact isRecs_iff.1 hr
  · rcases List.mem_cons.1 hq with rfl | hq
    · exact hb
    · exact h2 q hq
theorem _root_.Go.Den.Sat.bat (h : Sat Γ L w) {u : Value} {b : Bat} (hm : Yticgmchbihakkaa.bat u b ∈ Γ) : ∃ rv, u = .agg [vi b.base, vi b.last, vi b.prod, vi b.epoch, vi b.seq, rv].toArray ∧ Sat (recR.sl rv b.recs :: Γ) L w := by
  obtain ⟨ow, h1, h2, h3⟩ := h.ex
  obtain ⟨rv, e, hr⟩ := h2 _ hm
  refine ⟨rv, e, ow, h1, fun q hq => ?_, h3⟩
  rcases List.mem_cons.1 hq with rfl | hq
  · exact isRecs_iff.1 hr
  · exact h2 q hq
def recO (us : List Value) (R : Option Rec) : PP := ⟨fun w I => ∀ b, R = some b → IsRec w I us b, fun h k b hb => (h b hb).fr (agr_fr k) (apart_not _ _), fun h k b hb => (h b hb).mono k⟩
theorem c184 (h : Sat Γ L w) {v : Value} {p : Bytes} (hv : byt v p ∈ Γ) (hl : p.length ≤ 100000000000) (base first : Int) {R : Option Rec} (hR : recD p base first = R) :
    Meets Try.prog 184 [v, vi base, vi first] w fun v' w' => ∃ us : List Value, v' = .tuple #[.agg us.toArray, .bool R.isSome] ∧ us.length = 6 ∧ (∀ u ∈ us, u.oneCell' = true) ∧ Sat (recO us R :: Γ) L w' := by
  obtain ⟨G, h1⟩ := h.byt hv
  have := f184 w v G p base first h1 hl
  rw [hR] at this
  refine this.mono ?_
  rintro v' w' ⟨f, u, e, ⟨us, rfl, h3, h4⟩, h5⟩
  refine ⟨us, e, h3, h4, h.newp f fun I b hb => ?_⟩
  subst hb
  obtain ⟨cs, e', hcs⟩ := h5
  have := congrArg Array.toList (Value.agg.inj e')
  simp only [List.toList_toArray] at this
  subst this
  exact hcs.mono fun _ _ h => .inr h
theorem c135 (h : Sat Γ L w) {k a e : Nat} {xs : Bytes} (hk : L[k]? = some (rdr a xs e)) (most : Int) (hl : xs.length ≤ 100000000000) {q : Bytes × Bytes × Nat} (hq : rBytes most (xs, e) = q) :
    Meets Try.prog 135 [ptr a, vi most] w fun v' w' => Sat (byt v' q.1 :: Γ) (L.set k (rdr a q.2.1 q.2.2)) w' := by
  subst hq
  obtain ⟨I, E, h1, h2, h3, ⟨G, g1, g2, g3⟩, h5, h6⟩ := h.step hk
  refine (f135 w a G xs e most g1 hl).mono ?_
  rintro v' w' ⟨f, ⟨G', i1, i2⟩, r⟩
  have hS := h6 w' (.ofP (byt v' _)) (rdr a _ _) (fun b => w.heap.size ≤ b ∧ b < w'.heap.size) (fun b => E b) (f.mono fun b _ e => by subst e; exact g2) ⟨G', i2, fun b hb => .inr ⟨i1 b hb, i2.lt b hb⟩⟩ ⟨G, r, g2, g3⟩ (fun b hb => ⟨hb.2, .inr hb.1⟩) (fun b hb => ⟨Nat.lt_of_lt_of_le (h2 b hb) f.size, .inl hb⟩) fun b hb hb' => by have := h2 b hb'; omega
  exact (hS.freeze (k := 0) rfl fun _ _ h => h).drop
theorem c76 (h : Sat Γ L w) {v : Value} {b : Bat} (hv : bat v b ∈ Γ) : Meets Try.prog 76 [v] w fun v' w' => ∃ u, v' = .tuple #[u, vi (chk b)] ∧ Sat (byt u (if chk b = 0 then encB b else []) :: Γ) L w' := by
  obtain ⟨I, _, h1⟩ := h.pers hv
  refine (f76 w I v b h1).mono ?_
  rintro v' w' ⟨u, rfl, hf, hm⟩
  refine ⟨u, rfl, h.newp hf fun I => ?_⟩
  by_cases hc : chk b = 0
  · rw [if_pos hc] at hm ⊢
    exact ⟨_, .of hm.1, fun b hb => .inr (hm.2.2 b hb)⟩
  · rw [if_neg hc] at hm ⊢
    subst hm
    exact ⟨none, .nil _, by simp⟩
theorem c185 (h : Sat Γ L w) {u v : Value} {xs ys : Bytes} (hu : byt u xs ∈ Γ) (hv : byt v ys ∈ Γ) : Meets Try.prog 185 [u, v] w fun v' w' => v' = .bool (decide (xs = ys)) ∧ w' = w := by
  obtain ⟨G, h1⟩ := h.byt hu
  obtain ⟨G', h2⟩ := h.byt hv
  exact f185 w u v G G' xs ys h1 h2
theorem six_of {us : List Value} (h : us.length = 6) : ∃ y0 y1 y2 y3 y4 y5, us = [y0, y1, y2, y3, y4, y5] := by
  match us, h with
  | [y0, y1, y2, y3, y4, y5], _ => exact ⟨y0, y1, y2, y3, y4, y5, rfl⟩
theorem recTy' : ElemTy Try.prog 30 recR.ty recR.sz 80 (.agg #[vi 0, vi 0, .bool false, .slice none 0 0, .bool false, .slice none 0 0]) := ⟨by kernel_rfl, by kernel_rfl, rfl, by decide, by decide⟩
def zRec : List Value := [vi 0, vi 0, .bool false, .slice none 0 0, .bool false, .slice none 0 0]
theorem zRec_one : ∀ u ∈ zRec, u.oneCell' = true := by
  intro u hu; simp [zRec] at hu; rcases hu with rfl | rfl | rfl | rfl | rfl <;> rfl

set_option maxHeartbeats 1000000 in
theorem c158 (h : Sat Γ L w) {v : Value} {p : Bytes} (hv : byt v p ∈ Γ) (hl : p.length ≤ 100000000000) {R : Option Bat} (hR : R = readD p) :
    Meets Try.prog 158 [v] w fun v' w' => ∃ us : List Value, v' = .tuple #[.agg us.toArray, .bool R.isSome] ∧ us.length = 6 ∧ (∀ u ∈ us, u.oneCell' = true) ∧ Sat (batO us R :: Γ) L w' := by
  obtain ⟨A, c, rfl, hc1, hc2⟩ := h.bytVal hv
  refine spec_join Try.func158 Try.ntmps158 Try.results158 rfl (by kernel_rfl) rfl (J := [100013]) ?_
  refine h.new fun b1 w1 hS => ?_
  have hS : Sat Γ (.blk b1 [vi 0, vi 0, vi 0, vi 0, vi 0, .slice none 0 0] 32 :: L) w1 := hS
  refine (c88 hS hv hl).mono ?_
  rintro _ w2 ⟨a, rfl, hS⟩
  unfold readD at hR
  dsimp only at hR
  generalize hx1 : rFix (p, 0) 8 = x1 at hR
  have n1 : x1.2.1.length ≤ p.length := by rw [← hx1]; exact rFix_len _ _
  refine (c116 hS (k := 0) rfl (size := 8) (by omega) (by omega) hl hx1).mono ?_
  rintro _ w3 ⟨rfl, hS⟩
  refine ⟨_, rfl, hS.st (k := 1) (i := 0) rfl (by simp) rfl fun w4 hS => ?_⟩
  generalize hx2 : rFix x1.2 4 = x2 at hR
  have n2 : x2.2.1.length ≤ p.length := by rw [← hx2]; exact Nat.le_trans (rFix_len _ _) n1
  refine (c116 hS (k := 0) rfl (size := 4) (by omega) (by omega) (by omega) hx2).mono ?_
  rintro _ w5 ⟨rfl, hS⟩
  generalize hx3 : rFix x2.2 4 = x3 at hR
  have n3 : x3.2.1.length ≤ p.length := by rw [← hx3]; exact Nat.le_trans (rFix_len _ _) n2
  refine (c116 hS (k := 0) rfl (size := 4) (by omega) (by omega) (by omega) hx3).mono ?_
  rintro _ w6 ⟨rfl, hS⟩
  generalize hx4 : rFix x3.2 8 = x4 at hR
  have n4 : x4.2.1.length ≤ p.length := by rw [← hx4]; exact Nat.le_trans (rFix_len _ _) n3
  have hS : Sat Γ (rdr a x3.2.1 x3.2.2 :: .blk b1 [vi x1.1, vi 0, vi 0, vi 0, vi 0, .slice none 0 0] 32 :: L) w6.drew := hS.drew
  refine ⟨hs [0, 1, 2] (.one 3 true (hs [4, 5] (.one 6 false .nil))), fun u => u.heap[b1]? = _, by kernel_rfl, by kernel_rfl, hS.blk (k := 1) rfl, ?_⟩
  refine ⟨_, rfl, _, _, ⟨rfl, fun u hu => cell_of hu rfl⟩, ?_⟩
  refine (c116 hS (k := 0) rfl (size := 8) (by omega) (by omega) (by omega) hx4).mono ?_
  rintro _ w7 ⟨rfl, hS⟩
  refine ⟨hS.blk (k := 1) rfl, _, rfl, hS.st (k := 1) (i := 1) rfl (by simp) rfl fun w8 hS => ?_⟩
  generalize hx5 : rFix x4.2 8 = x5 at hR
  have n5 : x5.2.1.length ≤ p.length := by rw [← hx5]; exact Nat.le_trans (rFix_len _ _) n4
  refine (c116 hS (k := 0) rfl (size := 8) (by omega) (by omega) (by omega) hx5).mono ?_
  rintro _ w9 ⟨rfl, hS⟩
  generalize hx6 : rFix x5.2 8 = x6 at hR
  have n6 : x6.2.1.length ≤ p.length := by rw [← hx6]; exact Nat.le_trans (rFix_len _ _) n5
  refine (c116 hS (k := 0) rfl (size := 8) (by omega) (by omega) (by omega) hx6).mono ?_
  rintro _ w10 ⟨rfl, hS⟩
  generalize hx7 : rFix x6.2 2 = x7 at hR
  have n7 : x7.2.1.length ≤ p.length := by rw [← hx7]; exact Nat.le_trans (rFix_len _ _) n6
  refine (c116 hS (k := 0) rfl (size := 2) (by omega) (by omega) (by omega) hx7).mono ?_
  rintro _ w11 ⟨rfl, hS⟩
  generalize hx8 : rFix x7.2 4 = x8 at hR
  have n8 : x8.2.1.length ≤ p.length := by rw [← hx8]; exact Nat.le_trans (rFix_len _ _) n7
  refine (c116 hS (k := 0) rfl (size := 4) (by omega) (by omega) (by omega) hx8).mono ?_
  rintro _ w12 ⟨rfl, hS⟩
  have hS : Sat Γ (rdr a x8.2.1 x8.2.2 :: .blk b1 [vi x1.1, vi (IntKind.i64.wrap ((x1.1 : Int) + x4.1)), vi 0, vi 0, vi 0, .slice none 0 0] 32 :: L) w12 := hS
  refine ⟨_, rfl, hS.st (k := 1) (i := 2) rfl (by simp) rfl fun w13 hS => ?_⟩
  refine ⟨_, rfl, hS.st (k := 1) (i := 3) rfl (by simp) rfl fun w14 hS => ?_⟩
  refine ⟨_, rfl, hS.st (k := 1) (i := 4) rfl (by simp) rfl fun w15 hS => ?_⟩
  generalize hx9 : rFix x8.2 4 = x9 at hR
  have n9 : x9.2.1.length ≤ p.length := by rw [← hx9]; exact Nat.le_trans (rFix_len _ _) n8
  refine (c116 hS (k := 0) rfl (size := 4) (by omega) (by omega) (by omega) hx9).mono ?_
  rintro _ w16 ⟨rfl, hS⟩
  let H : Value → List Value := fun rv => [vi x1.1, vi (IntKind.i64.wrap ((x1.1 : Int) + x4.1)), vi x6.1, vi x7.1, vi x8.1, rv]
  have hS : Sat Γ (rdr a x9.2.1 x9.2.2 :: .blk b1 (H (.slice none 0 0)) 32 :: L) w16 := hS
  have hH : ∀ {A : Option Addr} {n c : Nat}, ∀ x ∈ H (.slice A n c), x.oneCell' = true := by intro A n c x hx; simp [H] at hx; rcases hx with rfl | rfl | rfl | rfl | rfl | rfl <;> rfl
  have fail : ∀ {u : World} {k : Nat} {Γ' : List PP} {L' : List HP} {A : Option Addr} {n c : Nat}, R = none → k = L'.length → Sat (Γ' ++ Γ) (L' ++ .blk b1 (H (.slice A n c)) 32 :: L) u →
      wrAt u ⟨b1, 0, none⟩ 0 (H (.slice A n c)) ∧ ∀ u1, u1 = setCells u ⟨b1, 0, none⟩ 0 (H (.slice A n c)) → ∃ vs : List Value, (vs.length = 6 ∧ cellsAt u1 ⟨b1, 0, none⟩ 0 vs) ∧ ∃ us : List Value, Value.tuple #[.agg vs.toArray, .bool false] = .tuple #[.agg us.toArray, .bool R.isSome] ∧ us.length = 6 ∧ (∀ u ∈ us, u.oneCell' = true) ∧ Sat (batO us R :: Γ) L u1 := by
    intro u k Γ' L' A n c hn hk hS
    have hg : (L' ++ HP.blk b1 (H (.slice A n c)) 32 :: L)[k]? = some (.blk b1 (H (.slice A n c)) 32) := by subst hk; simp
    refine hS.stAll (vs := H (.slice A n c)) (k := k) hg rfl hH fun u1 hS => ?_
    have he : (L' ++ HP.blk b1 (H (.slice A n c)) 32 :: L).set k (.blk b1 (H (.slice A n c)) 32) = L' ++ .blk b1 (H (.slice A n c)) 32 :: L := by subst hk; simp
    rw [he] at hS
    exact ⟨_, ⟨rfl, hS.ldAll hg⟩, H (.slice A n c), by rw [hn]; rfl, rfl, hH, hS.weak.drop.any _ fun I b hb => by rw [hn] at hb; cases hb⟩
  refine (c92 hS (k := 0) rfl).mono ?_
  rintro _ w16 ⟨rfl, rfl⟩
  refine ⟨fun hc => ?_, fun hc => ?_⟩
  · have hc : (!decide ((x9.2.2 : Int) = 0) || decide ((100 : Int) < (x9.1 : Int))) = true := hc
    rw [if_pos (by simp at hc; omega)] at hR
    exact ⟨_, _, ⟨rfl, rfl, hS.ldAll (k := 1) rfl⟩, fail (k := 1) (Γ' := []) (L' := [_]) hR rfl hS⟩
  have hc : (!decide ((x9.2.2 : Int) = 0) || decide ((100 : Int) < (x9.1 : Int))) = false := hc
  have hc : x9.2.2 = 0 ∧ ¬ 100 < x9.1 := by simp at hc; omega
  rw [if_neg (by omega)] at hR
  have hS := hS.ownNil recR
  rw [hc.1] at hS
  refine ⟨[3, 48], by kernel_rfl, fun vs u => ∃ (j : Nat) (rv : Value) (rs : List Rec) (xs : Bytes) (e0 : Nat), vs = [.bool false, vi j] ∧ j ≤ x9.1 ∧ rs.length = j ∧ e0 = 0 ∧ xs.length ≤ p.length ∧ Sat Γ (recR.own rv rs :: rdr a xs e0 :: .blk b1 (H rv) 32 :: L) u ∧ recsD x1.1 x5.1 x9.1 x9.2.1 [] = recsD x1.1 x5.1 (x9.1 - j) xs rs, fun vs _ => match vs with | [_, .int _ j] => (x9.1 - j).toNat | _ => 0, ⟨0, _, [], x9.2.1, 0, rfl, by omega, rfl, rfl, n9, hS, rfl⟩, ?_⟩
  rintro _ u ⟨j, rv, rs, xs, e0, rfl, hj, hrl, rfl, hxl, hS, hrec⟩
  obtain ⟨Av, cv, rfl, _⟩ := hS.ownVal (k := 0) rfl
  refine ⟨rfl, fun hlt => ?_, fun hlt => ?_⟩
  · have hj' : j < x9.1 := by have := of_decide_eq_true hlt; omega
    rw [show x9.1 - j = (x9.1 - (j + 1)) + 1 by omega, recsD] at hrec
    have hq1 := rBytes_len1 65536 (xs, 0)
    obtain ⟨m, hm, hm'⟩ := rBytes_suf 65536 xs
    generalize hq : rBytes 65536 (xs, 0) = q at hrec hq1 hm
    replace hq1 : q.1.length ≤ 100000000000 := Nat.le_trans hq1 (by show xs.length ≤ _; omega)
    have hql : q.2.1.length ≤ p.length := by rw [hm]; simp; omega
    generalize hrr : recD q.1 x1.1 x5.1 = rr at hrec
    have hS := hS.drew
    let W : List HP := [recR.own (.slice Av rs.length cv) rs, rdr a q.2.1 q.2.2, .blk b1 (H (.slice Av rs.length cv)) 32]
    refine ⟨[7, 8], fun vs u' => ∃ bx us, vs = [ptr bx, .bool rr.isSome] ∧ us.length = 6 ∧ (∀ x ∈ us, x.oneCell' = true) ∧ Sat (recO us rr :: Γ) (.blk bx us 47 :: W ++ L) u', by kernel_rfl, ⟨hs [0, 2, 3, 4] (.two 1 true (.two 5 false (hs [6, 7, 8] (.one 9 true (.one 10 false (hs [11] .nil)))) 9 true (.one 5 false (hs [6, 7, 8] (.one 10 false (hs [11] .nil))))) 9 true (.one 1 true (.one 5 false (hs [6, 7, 8] (.one 10 false (hs [11] .nil)))))), fun u => u.heap[b1]? = _, by kernel_rfl, by kernel_rfl, hS.blk (k := 2) rfl, ?_⟩, ?_⟩
    · refine ⟨_, rfl, _, _, ⟨rfl, fun u hu => cell_of hu rfl⟩, ?_, ?_⟩
      · refine (c135 hS (k := 1) rfl 65536 (by omega) hq).mono ?_
        rintro v1 u1 hS
        refine ⟨hS.blk (k := 2) rfl, ?_, ?_⟩
        · refine (c184 hS mh hq1 x1.1 x5.1 hrr).mono ?_
          rintro _ u2 ⟨us, rfl, hu1, hu2, hS⟩
          obtain ⟨y0, y1, y2, y3, y4, y5, rfl⟩ := six_of hu1
          refine hS.new fun bx u3 hS => ?_
          have hS : Sat _ (.blk bx zRec 47 :: W ++ L) u3 := hS
          refine ⟨hS.blk (k := 3) rfl, hS.stAll (vs := [y0, y1, y2, y3, y4, y5]) (k := 0) rfl rfl hu2 fun u4 hS => ?_⟩
          exact ⟨bx, _, rfl, rfl, hu2, hS.keep⟩
        · refine hS.new fun bx u3 hS => ?_
          have hS : Sat _ (.blk bx zRec 47 :: W ++ L) u3 := hS
          refine ⟨hS.blk (k := 3) rfl, ?_⟩
          refine (c184 hS mh hq1 x1.1 x5.1 hrr).mono ?_
          rintro _ u2 ⟨us, rfl, hu1, hu2, hS⟩
          obtain ⟨y0, y1, y2, y3, y4, y5, rfl⟩ := six_of hu1
          refine hS.stAll (vs := [y0, y1, y2, y3, y4, y5]) (k := 0) rfl rfl hu2 fun u4 hS => ?_
          exact ⟨bx, _, rfl, rfl, hu2, hS.keep⟩
      · refine hS.new fun bx u1 hS => ?_
        have hS : Sat Γ (.blk bx zRec 47 :: recR.own (.slice Av rs.length cv) rs :: rdr a xs 0 :: .blk b1 (H (.slice Av rs.length cv)) 32 :: L) u1 := hS
        refine ⟨hS.blk (k := 3) rfl, ?_⟩
        refine (c135 hS (k := 2) rfl 65536 (by omega) hq).mono ?_
        rintro v1 u2 hS
        refine ⟨hS.blk (k := 3) rfl, ?_⟩
        refine (c184 hS mh hq1 x1.1 x5.1 hrr).mono ?_
        rintro _ u2 ⟨us, rfl, hu1, hu2, hS⟩
        obtain ⟨y0, y1, y2, y3, y4, y5, rfl⟩ := six_of hu1
        refine hS.stAll (vs := [y0, y1, y2, y3, y4, y5]) (k := 0) rfl rfl hu2 fun u4 hS => ?_
        exact ⟨bx, _, rfl, rfl, hu2, hS.keep⟩
    · rintro _ u' ⟨bx, us, rfl, hu1, hu2, hS⟩
      obtain ⟨y0, y1, y2, y3, y4, y5, rfl⟩ := six_of hu1
      refine ⟨rfl, ?_⟩
      cases rr with
      | none =>
        refine ⟨fun _ => ?_, fun h => by cases h⟩
        rw [hrec] at hR
        exact ⟨_, _, ⟨rfl, rfl, hS.ldAll (k := 3) rfl⟩, fail (k := 3) (Γ' := [_]) (L' := [_, _, _]) hR rfl hS⟩
      | some r =>
        refine ⟨fun h => (by cases h), fun _ => ?_⟩
        have hS := hS.der (p := recR.el [y0, y1, y2, y3, y4, y5] r) (q := recO [y0, y1, y2, y3, y4, y5] (some r)) mh fun I h => h r rfl
        refine ⟨_, rfl, _, _, ⟨rfl, hS.ld (k := 3) (i := 5) rfl rfl⟩, _, _, ⟨rfl, rfl, hS.ldAll (k := 0) rfl⟩, ?_⟩
        refine hS.new fun b16 w9 hS => ?_
        have hS : Sat _ (.blk b16 [y0, y1, y2, y3, y4, y5] 47 :: .blk bx [y0, y1, y2, y3, y4, y5] 47 :: W ++ L) w9 := hS
        refine hS.apOne (R := recR) (k := 2) (j := 0) rfl rfl mh recTy' (by omega) fun A' c' w10 hS => ?_
        refine ⟨_, rfl, hS.st (k := 4) (i := 5) rfl (by simp [H]) rfl fun w11 hS => ?_⟩
        have ei : IntKind.i64.wrap ((j : Int) + 1) = ((j + 1 : Nat) : Int) := by rw [w64 (by omega)]; rfl
        have he : q.2.2 = 0 := by
          cases hb : q.2.2 with
          | zero => rfl
          | succ n =>
            have hq0 : q.1 = [] := by
              rw [← hq] at hb ⊢
              unfold rBytes at hb ⊢
              split at hb <;> rename_i h1
              · rw [if_pos h1]
              · rw [if_neg h1]
                split at hb <;> rename_i h2
                · simp only [h2]
                · simp only [h2]
                  split at hb <;> rename_i h3
                  · rw [if_pos h3]
                  · rw [if_neg h3]
                    split at hb <;> rename_i h4
                    · rw [if_pos h4]
                    · cases hb
            rw [hq0] at hrr
            have : recD [] x1.1 x5.1 = none := by
              unfold recD
              have e1 : rNum (([] : Bytes), 0) = (0, [], 2) := by decide
              have e2 : rNum (([] : Bytes), 2) = (0, [], 2) := by decide
              simp only [e1, e2]
              rw [if_pos (by decide)]
            rw [this] at hrr; cases hrr
        refine ⟨⟨j + 1, _, rs ++ [r], q.2.1, q.2.2, ?_, by omega, by simp [hrl], he, hql, hS.tail.tail.drop.drop, hrec⟩, ?_⟩
        · show [_, vi (IntKind.i64.wrap ((j : Int) + 1))] = _
          rw [ei]
        · show ((x9.1 : Int) - IntKind.i64.wrap ((j : Int) + 1)).toNat < ((x9.1 : Int) - j).toNat
          rw [ei]; omega
  · have hj' : ¬ j < x9.1 := by have := of_decide_eq_false hlt; omega
    rw [show x9.1 - j = 0 by omega, recsD] at hrec
    rw [hrec] at hR
    dsimp only at hR
    generalize hbb : (⟨x1.1, IntKind.i64.wrap ((x1.1 : Int) + x4.1), x6.1, x7.1, x8.1, rs⟩ : Bat) = bb at hR
    have hS := hS.ownFreeze (R := recR) (k := 0) rfl
    have hS := hS.der (p := bat (.agg (H (.slice Av rs.length cv)).toArray) bb) (q := recR.sl (.slice Av rs.length cv) rs) mh fun I h => by
      subst hbb
      exact ⟨_, rfl, isRecs_iff.2 h⟩
    have hS : Sat _ (.emp :: rdr a xs 0 :: .blk b1 (H (.slice Av rs.length cv)) 32 :: L) u := hS
    refine ⟨_, _, ⟨rfl, rfl, hS.ldAll (k := 2) rfl⟩, ?_⟩
    refine (c76 hS mh).mono ?_
    rintro _ w5 ⟨u, rfl, hS⟩
    obtain ⟨Au, cu, rfl, _⟩ := hS.bytVal mh
    have hS := hS.drew
    refine ⟨hs [0, 1, 2, 3, 4, 5] (.one 6 true (hs [7] (.one 8 false (hs [9] .nil)))), fun u => u.heap[b1]? = _, by kernel_rfl, by kernel_rfl, hS.blk (k := 2) rfl, ?_⟩
    refine ⟨_, H (.slice Av rs.length cv), ⟨rfl, rfl, fun u hu => cellsAt_of fun j v hj => by rw [Nat.zero_add, add_mk, Nat.zero_add]; exact cell_of hu (by simpa using hj)⟩, ?_⟩
    refine Or.inr ?_
    refine ⟨_, fun _ => (c185 hS mh (mt (mt (mt hv)))).mono fun _ _ h => h, ?_⟩
    refine ⟨hS.blk (k := 2) rfl, hS.stAll (vs := H (.slice Av rs.length cv)) (k := 2) rfl rfl hH fun w6 hS => ?_⟩
    refine ⟨_, ⟨rfl, hS.ldAll (k := 2) rfl⟩, H (.slice Av rs.length cv), ?_, rfl, hH, ?_⟩
    · have hb : (decide ((chk bb : Int) = 0) && decide ((if chk bb = 0 then encB bb else []) = p)) = R.isSome := by
        rw [hR]
        by_cases h0 : chk bb = 0
        · rw [if_pos h0]
          by_cases h1 : encB bb = p
          · rw [if_pos ⟨h0, h1⟩]; simp [h0, h1]
          · rw [if_neg (fun h => h1 h.2)]; simp [h1]
        · simp [h0]
      show Value.tuple #[_, .bool (decide ((chk bb : Int) = 0) && decide ((if chk bb = 0 then encB bb else []) = p))] = _
      rw [hb]
    · have hS := hS.der (p := batO (H (.slice Av rs.length cv)) R) (q := bat (.agg (H (.slice Av rs.length cv)).toArray) bb) (mt mh) fun I h b hb => by
        rw [hR] at hb
        split at hb
        · cases hb; exact h
        · cases hb
      exact (hS.sub (Γ' := _ :: Γ) fun q hq => by
        rcases List.mem_cons.1 hq with rfl | hq
        · exact mh
        · exact mt (mt (mt (mt hq)))).drop.drop.drop
end
end Go.Proofs.Yticgmchbihakkaa

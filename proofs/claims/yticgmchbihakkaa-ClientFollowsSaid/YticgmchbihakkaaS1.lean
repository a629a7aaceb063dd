/- Separation, part 1: a list of what is known of the heap; what a step leaves of it. -/
import Derived.Test.YticgmchbihakkaaN1
set_option linter.unusedVariables false
set_option linter.unusedSimpArgs false
namespace Go.Den
open Go

/-- The blocks of E are as they were. -/
structure Agr (E : Nat → Prop) (w w' : World) : Prop where
  os : w'.os = w.os
  tape : w'.tape = w.tape
  output : w'.output = w.output
  size : w.heap.size ≤ w'.heap.size
  block : ∀ k, k < w.heap.size → E k → w'.heap[k]? = w.heap[k]?

theorem Agr.refl (E : Nat → Prop) (w : World) : Agr E w w := ⟨rfl, rfl, rfl, Nat.le_refl _, fun _ _ _ => rfl⟩
theorem Agr.trans {E : Nat → Prop} {a b c : World} (h : Agr E a b) (k : Agr E b c) : Agr E a c :=
  ⟨k.os.trans h.os, k.tape.trans h.tape, k.output.trans h.output, Nat.le_trans h.size k.size, fun i hi he => (k.block i (Nat.lt_of_lt_of_le hi h.size) he).trans (h.block i hi he)⟩
theorem Agr.blk {E : Nat → Prop} {w w' : World} (h : Agr E w w') {b : Nat} {o : Obj} (hb : w.heap[b]? = some o) (he : E b) : w'.heap[b]? = some o :=
  (h.block b (lt_of_blk hb) he).trans hb
theorem Agr.mono {E E' : Nat → Prop} {w w' : World} (h : Agr E w w') (he : ∀ b, b < w.heap.size → E' b → E b) : Agr E' w w' := ⟨h.os, h.tape, h.output, h.size, fun k hk h' => h.block k hk (he k hk h')⟩
theorem Fr.agr {D E : Nat → Prop} {w w' : World} (h : Fr D w w') (hd : ∀ k, E k → ¬ D k) : Agr E w w' := ⟨h.os, h.tape, h.output, h.size, fun k hk he => h.block k hk (hd k he)⟩
theorem Fr.agr0 {E : Nat → Prop} {w w' : World} (h : Fr None w w') : Agr E w w' := h.agr fun _ _ h => h
theorem Agr.fr {E D : Nat → Prop} {w w' : World} (h : Agr E w w') (hd : ∀ b, b < w.heap.size → ¬ E b → D b) : Fr D w w' :=
  ⟨h.os, h.tape, h.output, h.size, fun k hk hn => h.block k hk (Classical.byContradiction fun he => hn (hd k hk he))⟩

/-- What is known of blocks that are owned (D), with the help of blocks that no one turns (I). -/
structure HP where
  ok : World → (Nat → Prop) → (Nat → Prop) → Prop
  loc : ∀ {w w' I D}, ok w I D → Agr I w w' → Agr D w w' → ok w' I D
  mono : ∀ {w I I' D D'}, ok w I D → (∀ b, b < w.heap.size → I b → I' b) → (∀ b, b < w.heap.size → D b → D' b) → ok w I' D'

/-- What is known of blocks that no one turns. -/
structure PP where
  ok : World → (Nat → Prop) → Prop
  loc : ∀ {w w' I}, ok w I → Agr I w w' → ok w' I
  mono : ∀ {w I I'}, ok w I → (∀ b, b < w.heap.size → I b → I' b) → ok w I'

inductive Ow where
  | none
  | imm
  | at (i : Nat)

/-- The state: what no one turns; what is owned, each apart from the others. -/
structure Sat (Γ : List PP) (L : List HP) (w : World) : Prop where
  ex : ∃ ow : Nat → Ow, (∀ b, w.heap.size ≤ b → ow b = .none) ∧ (∀ p ∈ Γ, p.ok w fun b => ow b = .imm) ∧ ∀ (i : Nat) (P : HP), L[i]? = some P → P.ok w (fun b => ow b = .imm) fun b => ow b = .at i

def HP.emp : HP := ⟨fun _ _ _ => True, fun _ _ _ => trivial, fun _ _ _ => trivial⟩
/-- A block, whatever it is. -/
def HP.obj (b : Nat) (o : Obj) : HP := ⟨fun w _ D => D b ∧ w.heap[b]? = some o, fun h _ k => ⟨h.1, k.blk h.2 h.1⟩, fun h _ k => ⟨k _ (lt_of_blk h.2) h.1, h.2⟩⟩
/-- A block of cells. -/
def HP.blk (b : Nat) (cs : List Value) (t : Nat) : HP := .obj b (.cells cs.toArray t (0, 0))
def HP.ofP (p : PP) : HP := ⟨fun w I D => p.ok w fun b => I b ∨ D b, fun h k1 k2 => p.loc h ⟨k1.os, k1.tape, k1.output, k1.size, fun b hb h => h.elim (k1.block b hb) (k2.block b hb)⟩, fun h k1 k2 => p.mono h fun b hb h => h.imp (k1 b hb) (k2 b hb)⟩
def HP.ex {α : Type} (P : α → HP) : HP := ⟨fun w I D => ∃ x, (P x).ok w I D, fun ⟨x, h⟩ k1 k2 => ⟨x, (P x).loc h k1 k2⟩, fun ⟨x, h⟩ k1 k2 => ⟨x, (P x).mono h k1 k2⟩⟩
def HP.pure (φ : Prop) (P : HP) : HP := ⟨fun w I D => φ ∧ P.ok w I D, fun ⟨h0, h⟩ k1 k2 => ⟨h0, P.loc h k1 k2⟩, fun ⟨h0, h⟩ k1 k2 => ⟨h0, P.mono h k1 k2⟩⟩
def HP.star (P Q : HP) : HP := ⟨fun w I D => ∃ D1 D2 : Nat → Prop, (∀ b, D1 b → D b) ∧ (∀ b, D2 b → D b) ∧ (∀ b, D1 b → ¬ D2 b) ∧ P.ok w I D1 ∧ Q.ok w I D2,
  fun ⟨D1, D2, h1, h2, h3, h4, h5⟩ k1 k2 => ⟨D1, D2, h1, h2, h3, P.loc h4 k1 (k2.mono fun b _ => h1 b), Q.loc h5 k1 (k2.mono fun b _ => h2 b)⟩,
  fun {w I I' D D'} ⟨D1, D2, h1, h2, h3, h4, h5⟩ k1 k2 => ⟨fun b => D1 b ∧ b < w.heap.size, fun b => D2 b ∧ b < w.heap.size, fun b h => k2 b h.2 (h1 b h.1), fun b h => k2 b h.2 (h2 b h.1), fun b h h' => h3 b h.1 h'.1,
    P.mono h4 k1 fun b hb h => ⟨h, hb⟩, Q.mono h5 k1 fun b hb h => ⟨h, hb⟩⟩⟩
/-- With the help of what no one turns. -/
def HP.with (p : PP) (P : HP) : HP := ⟨fun w I D => p.ok w I ∧ P.ok w I D, fun ⟨h0, h⟩ k1 k2 => ⟨p.loc h0 k1, P.loc h k1 k2⟩, fun ⟨h0, h⟩ k1 k2 => ⟨p.mono h0 k1, P.mono h k1 k2⟩⟩
def PP.ex {α : Type} (P : α → PP) : PP := ⟨fun w I => ∃ x, (P x).ok w I, fun ⟨x, h⟩ k1 => ⟨x, (P x).loc h k1⟩, fun ⟨x, h⟩ k1 => ⟨x, (P x).mono h k1⟩⟩

section
variable {Γ : List PP} {L : List HP} {w : World}

theorem Sat.pers (h : Sat Γ L w) {p : PP} (hp : p ∈ Γ) : ∃ I : Nat → Prop, (∀ b, I b → b < w.heap.size) ∧ p.ok w I := by
  obtain ⟨ow, h1, h2, h3⟩ := h.ex
  refine ⟨_, fun b hb => Nat.lt_of_not_le fun hle => ?_, h2 p hp⟩
  have hb : ow b = .imm := hb
  rw [h1 b hle] at hb; cases hb

/-- Persistents out of persistents. -/
theorem Sat.addp (h : Sat Γ L w) {p : PP} (hp : ∀ I : Nat → Prop, (∀ b, I b → b < w.heap.size) → (∀ q ∈ Γ, q.ok w I) → p.ok w I) : Sat (p :: Γ) L w := by
  obtain ⟨ow, h1, h2, h3⟩ := h.ex
  refine ⟨ow, h1, fun q hq => ?_, h3⟩
  rcases List.mem_cons.1 hq with rfl | hq
  · refine hp _ (fun b hb => Nat.lt_of_not_le fun hle => ?_) h2
    have hb : ow b = .imm := hb
    rw [h1 b hle] at hb; cases hb
  · exact h2 q hq
theorem Sat.der (h : Sat Γ L w) {p q : PP} (hq : q ∈ Γ) (hp : ∀ I : Nat → Prop, q.ok w I → p.ok w I) : Sat (p :: Γ) L w := h.addp fun I _ hI => hp I (hI q hq)

/-- The persistents alone matter as a set. -/
theorem Sat.sub (h : Sat Γ L w) {Γ' : List PP} (hs : ∀ p ∈ Γ', p ∈ Γ) : Sat Γ' L w := by
  obtain ⟨ow, h1, h2, h3⟩ := h.ex
  exact ⟨ow, h1, fun p hp => h2 p (hs p hp), h3⟩
theorem Sat.tail {p : PP} (h : Sat (p :: Γ) L w) : Sat Γ L w := h.sub fun _ hp => List.mem_cons_of_mem _ hp
theorem Sat.drop {P : HP} (h : Sat Γ (P :: L) w) : Sat Γ L w := by
  obtain ⟨ow, h1, h2, h3⟩ := h.ex
  refine ⟨fun b => match ow b with | .at 0 => .none | .at (i + 1) => .at i | o => o, fun b hb => by simp only [h1 b hb], fun p hp => p.mono (h2 p hp) fun b _ hb => ?_, fun i Q hi => Q.mono (h3 (i + 1) Q (by simpa using hi)) (fun b _ hb => ?_) fun b _ hb => ?_⟩
  · have hb : ow b = .imm := hb
    simp only [hb]
  · have hb : ow b = .imm := hb
    simp only [hb]
  · have hb : ow b = .at (i + 1) := hb
    simp only [hb]

/-- What may be asked of the place k, and what a step may make of it. -/
theorem Sat.step (h : Sat Γ L w) {k : Nat} {P : HP} (hk : L[k]? = some P) : ∃ I E : Nat → Prop, (∀ b, I b → b < w.heap.size) ∧ (∀ b, E b → b < w.heap.size) ∧ (∀ b, I b → ¬ E b) ∧ P.ok w I E ∧ (∀ q ∈ Γ, q.ok w I) ∧
    ∀ (w' : World) (N P' : HP) (En E' : Nat → Prop), Fr E w w' → N.ok w' I En → P'.ok w' I E' → (∀ b, En b → b < w'.heap.size ∧ (E b ∨ w.heap.size ≤ b)) → (∀ b, E' b → b < w'.heap.size ∧ (E b ∨ w.heap.size ≤ b)) → (∀ b, En b → ¬ E' b) → Sat Γ (N :: L.set k P') w' := by
  obtain ⟨ow, h1, h2, h3⟩ := h.ex
  have lt : ∀ b, ow b ≠ .none → b < w.heap.size := fun b hb => Nat.lt_of_not_le fun hle => hb (h1 b hle)
  refine ⟨fun b => ow b = .imm, fun b => ow b = .at k, fun b (hb : ow b = .imm) => lt b (by rw [hb]; simp), fun b (hb : ow b = .at k) => lt b (by rw [hb]; simp), fun b (hb : ow b = .imm) (hb' : ow b = .at k) => (by rw [hb] at hb'; cases hb'), h3 k P hk, h2, ?_⟩
  intro w' N P' En E' hf hN hP' hn he hne
  classical
  let ow' : Nat → Ow := fun b => if En b then .at 0 else if E' b then .at (k + 1) else match ow b with | .at i => if i = k then .none else .at (i + 1) | o => o
  have hold : ∀ b, ow b = .imm → ow' b = .imm := by
    intro b hb
    have hl := lt b (by rw [hb]; simp)
    have n1 : ¬ En b := fun h => by rcases (hn b h).2 with h | h; rw [hb] at h; cases h; omega
    have n2 : ¬ E' b := fun h => by rcases (he b h).2 with h | h; rw [hb] at h; cases h; omega
    simp only [ow', if_neg n1, if_neg n2, hb]
  have hold2 : ∀ b i, i ≠ k → ow b = .at i → ow' b = .at (i + 1) := by
    intro b i hi hb
    have hl := lt b (by rw [hb]; simp)
    have n1 : ¬ En b := fun h => by rcases (hn b h).2 with h | h; rw [hb] at h; cases h; exact hi rfl; omega
    have n2 : ¬ E' b := fun h => by rcases (he b h).2 with h | h; rw [hb] at h; cases h; exact hi rfl; omega
    simp only [ow', if_neg n1, if_neg n2, hb, if_neg hi]
  have hI : Agr (fun b => ow b = .imm) w w' := hf.agr fun b (hb : ow b = .imm) (hb' : ow b = .at k) => by rw [hb] at hb'; cases hb'
  refine ⟨ow', fun b hb => ?_, fun p hp => p.mono (p.loc (h2 p hp) hI) fun b _ => hold b, fun i Q hi => ?_⟩
  · have n1 : ¬ En b := fun h => by have := (hn b h).1; omega
    have n2 : ¬ E' b := fun h => by have := (he b h).1; omega
    have : ow b = .none := h1 b (by have := hf.size; omega)
    simp only [ow', if_neg n1, if_neg n2, this]
  · cases i with
    | zero =>
      simp at hi; subst hi
      exact N.mono hN (fun b _ => hold b) fun b _ hb => by simp only [ow', if_pos hb]
    | succ i =>
      have hi : (L.set k P')[i]? = some Q := by simpa using hi
      by_cases hik : i = k
      · subst hik
        rw [List.getElem?_set_self (List.getElem?_eq_some_iff.1 hk).1] at hi
        cases hi
        exact P'.mono hP' (fun b _ => hold b) fun b _ hb => by simp only [ow', if_neg (fun h => hne b h hb), if_pos hb]
      · rw [List.getElem?_set_ne (Ne.symm hik)] at hi
        refine Q.mono (Q.loc (h3 i Q hi) hI ?_) (fun b _ => hold b) fun b _ => hold2 b i hik
        exact hf.agr fun b (hb : ow b = .at i) (hb' : ow b = .at k) => by rw [hb] at hb'; cases hb'; exact hik rfl

/-- The place k alone is turned. -/
theorem Sat.turn (h : Sat Γ L w) {k : Nat} {P : HP} (hk : L[k]? = some P) : ∃ I E : Nat → Prop, (∀ b, I b → b < w.heap.size) ∧ (∀ b, E b → b < w.heap.size) ∧ (∀ b, I b → ¬ E b) ∧ P.ok w I E ∧ (∀ q ∈ Γ, q.ok w I) ∧
    ∀ (w' : World) (P' : HP) (E' : Nat → Prop), Fr E w w' → P'.ok w' I E' → (∀ b, E' b → b < w'.heap.size ∧ (E b ∨ w.heap.size ≤ b)) → Sat Γ (L.set k P') w' := by
  obtain ⟨I, E, h1, h2, h3, h4, h5, h6⟩ := h.step hk
  exact ⟨I, E, h1, h2, h3, h4, h5, fun w' P' E' hf hP hE => (h6 w' .emp P' (fun _ => False) E' hf trivial hP (fun _ h => h.elim) hE (fun _ h => h.elim)).drop⟩

/-- Something new. -/
theorem Sat.push (h : Sat Γ L w) : ∃ I : Nat → Prop, (∀ b, I b → b < w.heap.size) ∧ (∀ q ∈ Γ, q.ok w I) ∧
    ∀ (w' : World) (N : HP) (En : Nat → Prop), Fr None w w' → N.ok w' I En → (∀ b, En b → b < w'.heap.size ∧ w.heap.size ≤ b) → Sat Γ (N :: L) w' := by
  obtain ⟨ow, h1, h2, h3⟩ := h.ex
  have lt : ∀ b, ow b ≠ .none → b < w.heap.size := fun b hb => Nat.lt_of_not_le fun hle => hb (h1 b hle)
  refine ⟨fun b => ow b = .imm, fun b (hb : ow b = .imm) => lt b (by rw [hb]; simp), h2, ?_⟩
  intro w' N En hf hN hn
  classical
  let ow' : Nat → Ow := fun b => if En b then .at 0 else match ow b with | .at i => .at (i + 1) | o => o
  have hold : ∀ b, ow b = .imm → ow' b = .imm := by
    intro b hb
    have hl := lt b (by rw [hb]; simp)
    have n1 : ¬ En b := fun h => by have := (hn b h).2; omega
    simp only [ow', if_neg n1, hb]
  have hold2 : ∀ b i, ow b = .at i → ow' b = .at (i + 1) := by
    intro b i hb
    have hl := lt b (by rw [hb]; simp)
    have n1 : ¬ En b := fun h => by have := (hn b h).2; omega
    simp only [ow', if_neg n1, hb]
  refine ⟨ow', fun b hb => ?_, fun p hp => p.mono (p.loc (h2 p hp) hf.agr0) fun b _ => hold b, fun i Q hi => ?_⟩
  · have n1 : ¬ En b := fun h => by have := (hn b h).1; omega
    have : ow b = .none := h1 b (by have := hf.size; omega)
    simp only [ow', if_neg n1, this]
  · cases i with
    | zero =>
      simp at hi; subst hi
      exact N.mono hN (fun b _ => hold b) fun b _ hb => by simp only [ow', if_pos hb]
    | succ i =>
      have hi : L[i]? = some Q := by simpa using hi
      exact Q.mono (Q.loc (h3 i Q hi) hf.agr0 hf.agr0) (fun b _ => hold b) fun b _ => hold2 b i

/-- Nothing old is turned. -/
theorem Sat.fr0 (h : Sat Γ L w) {w' : World} (hf : Fr None w w') : Sat Γ L w' := by
  obtain ⟨I, _, _, h3⟩ := h.push
  exact (h3 w' .emp (fun _ => False) hf trivial fun _ h => h.elim).drop
theorem Sat.drew (h : Sat Γ L w) : Sat Γ L w.drew := h.fr0 (Fr.refl None w).drew

/-- What is owned becomes what no one turns. -/
theorem Sat.freeze (h : Sat Γ L w) {k : Nat} {P : HP} (hk : L[k]? = some P) {p : PP} (hp : ∀ I E : Nat → Prop, P.ok w I E → p.ok w fun b => I b ∨ E b) : Sat (p :: Γ) (L.set k .emp) w := by
  obtain ⟨ow, h1, h2, h3⟩ := h.ex
  let ow' : Nat → Ow := fun b => match ow b with | .at i => if i = k then .imm else .at i | o => o
  have e1 : ∀ b, ow b = .imm → ow' b = .imm := fun b hb => by simp only [ow', hb]
  have e2 : ∀ b, ow b = .at k → ow' b = .imm := fun b hb => by simp only [ow', hb, if_true]
  have e3 : ∀ b i, i ≠ k → ow b = .at i → ow' b = .at i := fun b i hi hb => by simp only [ow', hb, if_neg hi]
  refine ⟨ow', fun b hb => by simp only [ow', h1 b hb], fun q hq => ?_, fun i Q hi => ?_⟩
  · rcases List.mem_cons.1 hq with rfl | hq
    · exact q.mono (hp _ _ (h3 k P hk)) fun b _ hb => hb.elim (e1 b) (e2 b)
    · exact q.mono (h2 q hq) fun b _ => e1 b
  · by_cases hik : i = k
    · subst hik
      rw [List.getElem?_set_self (List.getElem?_eq_some_iff.1 hk).1] at hi
      cases hi; trivial
    · rw [List.getElem?_set_ne (Ne.symm hik)] at hi
      exact Q.mono (h3 i Q hi) (fun b _ => e1 b) fun b _ => e3 b i hik

/-- The place k, said otherwise. -/
theorem Sat.conv (h : Sat Γ L w) {k : Nat} {P P' : HP} (hk : L[k]? = some P) (hp : ∀ I E : Nat → Prop, (∀ q ∈ Γ, q.ok w I) → P.ok w I E → P'.ok w I E) : Sat Γ (L.set k P') w := by
  obtain ⟨I, E, h1, h2, h3, h4, h5, h6⟩ := h.turn hk
  exact h6 w P' E (Fr.refl _ _) (hp I E h5 h4) fun b hb => ⟨h2 b hb, .inl hb⟩
theorem Sat.exk (h : Sat Γ L w) {k : Nat} {α : Type} {P : α → HP} (hk : L[k]? = some (.ex P)) : ∃ x, Sat Γ (L.set k (P x)) w := by
  obtain ⟨I, E, h1, h2, h3, ⟨x, h4⟩, h5, h6⟩ := h.turn hk
  exact ⟨x, h6 w (P x) E (Fr.refl _ _) h4 fun b hb => ⟨h2 b hb, .inl hb⟩⟩
theorem Sat.purek (h : Sat Γ L w) {k : Nat} {φ : Prop} {P : HP} (hk : L[k]? = some (.pure φ P)) : φ ∧ Sat Γ (L.set k P) w := by
  obtain ⟨I, E, h1, h2, h3, ⟨h0, h4⟩, h5, h6⟩ := h.turn hk
  exact ⟨h0, h6 w P E (Fr.refl _ _) h4 fun b hb => ⟨h2 b hb, .inl hb⟩⟩
theorem Sat.withk (h : Sat Γ L w) {k : Nat} {p : PP} {P : HP} (hk : L[k]? = some (.with p P)) : Sat (p :: Γ) (L.set k P) w := by
  obtain ⟨ow, h1, h2, h3⟩ := h.ex
  refine ⟨ow, h1, fun q hq => ?_, fun i Q hi => ?_⟩
  · rcases List.mem_cons.1 hq with rfl | hq
    · exact (h3 k _ hk).1
    · exact h2 q hq
  · by_cases hik : i = k
    · subst hik
      rw [List.getElem?_set_self (List.getElem?_eq_some_iff.1 hk).1] at hi
      cases hi
      exact (h3 i _ hk).2
    · rw [List.getElem?_set_ne (Ne.symm hik)] at hi
      exact h3 i Q hi
/-- A star is opened: its first part comes to the front. -/
theorem Sat.open (h : Sat Γ L w) {k : Nat} {P Q : HP} (hk : L[k]? = some (.star P Q)) : Sat Γ (P :: L.set k Q) w := by
  obtain ⟨I, E, h1, h2, h3, ⟨D1, D2, g1, g2, g3, g4, g5⟩, h5, h6⟩ := h.step hk
  exact h6 w P Q D1 D2 (Fr.refl _ _) g4 g5 (fun b hb => ⟨h2 b (g1 b hb), .inl (g1 b hb)⟩) (fun b hb => ⟨h2 b (g2 b hb), .inl (g2 b hb)⟩) g3
/-- The front one is put to the place k. -/
theorem Sat.shut {P Q : HP} (h : Sat Γ (P :: L) w) {k : Nat} (hk : L[k]? = some Q) : Sat Γ (L.set k (.star P Q)) w := by
  obtain ⟨ow, h1, h2, h3⟩ := h.ex
  let ow' : Nat → Ow := fun b => match ow b with | .at 0 => .at k | .at (i + 1) => .at i | o => o
  have e1 : ∀ b, ow b = .imm → ow' b = .imm := fun b hb => by simp only [ow', hb]
  have e2 : ∀ b, ow b = .at 0 → ow' b = .at k := fun b hb => by simp only [ow', hb]
  have e3 : ∀ b i, ow b = .at (i + 1) → ow' b = .at i := fun b i hb => by simp only [ow', hb]
  refine ⟨ow', fun b hb => by simp only [ow', h1 b hb], fun q hq => q.mono (h2 q hq) fun b _ => e1 b, fun i R hi => ?_⟩
  by_cases hik : i = k
  · subst hik
    rw [List.getElem?_set_self (List.getElem?_eq_some_iff.1 hk).1] at hi
    cases hi
    refine ⟨fun b => ow b = .at 0, fun b => ow b = .at (i + 1), e2, fun b => e3 b i, fun b (hb : ow b = .at 0) (hb' : ow b = .at (i + 1)) => (by rw [hb] at hb'; cases hb'), P.mono (h3 0 P rfl) (fun b _ => e1 b) fun _ _ h => h, Q.mono (h3 (i + 1) Q (by simpa using hk)) (fun b _ => e1 b) fun _ _ h => h⟩
  · rw [List.getElem?_set_ne (Ne.symm hik)] at hi
    exact R.mono (h3 (i + 1) R (by simpa using hi)) (fun b _ => e1 b) fun b _ => e3 b i

/-- The place k comes to the front. -/
theorem Sat.front (h : Sat Γ L w) {k : Nat} {P : HP} (hk : L[k]? = some P) : Sat Γ (P :: L.set k .emp) w := by
  obtain ⟨I, E, h1, h2, h3, h4, h5, h6⟩ := h.step hk
  exact h6 w P .emp E (fun _ => False) (Fr.refl _ _) h4 trivial (fun b hb => ⟨h2 b hb, .inl hb⟩) (fun _ h => h.elim) (fun _ _ h => h)

/-! ### Steps -/

theorem Sat.obj (h : Sat Γ L w) {k b : Nat} {o : Obj} (hk : L[k]? = some (.obj b o)) : w.heap[b]? = some o := by
  obtain ⟨I, E, h1, h2, h3, h4, h5, h6⟩ := h.turn hk
  exact h4.2
theorem Sat.blk (h : Sat Γ L w) {k b t : Nat} {cs : List Value} (hk : L[k]? = some (.blk b cs t)) : w.heap[b]? = some (.cells cs.toArray t (0, 0)) := h.obj hk
theorem Sat.ld (h : Sat Γ L w) {k b t i : Nat} {cs : List Value} {v : Value} (hk : L[k]? = some (.blk b cs t)) (hi : cs[i]? = some v) : w.cell? ⟨b, i, none⟩ = some v := cell_of (h.blk hk) (by simpa using hi)
theorem Sat.ldAll (h : Sat Γ L w) {k b t : Nat} {cs : List Value} (hk : L[k]? = some (.blk b cs t)) : cellsAt w ⟨b, 0, none⟩ 0 cs :=
  cellsAt_of fun j v hj => by simp only [add_mk, Nat.zero_add]; exact h.ld hk hj
theorem Sat.putO (h : Sat Γ L w) {k b : Nat} {o o' : Obj} (hk : L[k]? = some (.obj b o)) {w' : World} (hw : w' = w.putObj b o') : Sat Γ (L.set k (.obj b o')) w' := by
  obtain ⟨I, E, h1, h2, h3, h4, h5, h6⟩ := h.turn hk
  subst hw
  refine h6 _ (.obj b o') E ((Fr.putObj w b o').mono fun i _ e => by subst e; exact h4.1) ⟨h4.1, World.putObj_heap_same (lt_of_blk h4.2)⟩ fun c hc => ⟨?_, .inl hc⟩
  have := h2 c hc
  simpa using this

theorem Sat.newO (h : Sat Γ L w) (o : Obj) {b : Nat} {w' : World} (hb : b = w.heap.size) (hw : w' = w.alloc o) : Sat Γ (.obj b o :: L) w' := by
  obtain ⟨I, h1, h2, h3⟩ := h.push
  obtain ⟨g1, g2, g3, g4⟩ := new_of hb hw
  exact h3 w' (.obj b o) (fun c => c = b) g2 ⟨rfl, g1⟩ fun c hc => by subst hc; omega
theorem Sat.new (h : Sat Γ L w) {cells : List Value} {t : Nat} {K : Nat → World → Prop} (hk : ∀ b w1, Sat Γ (.blk b cells t :: L) w1 → K b w1) : newD cells t w K :=
  fun b w1 hb hw => hk b w1 (h.newO _ hb hw)

/-- A store of one cell. -/
theorem Sat.st (h : Sat Γ L w) {k b t i : Nat} {cs : List Value} {v : Value} {K : World → Prop} (hk : L[k]? = some (.blk b cs t)) (hi : i < cs.length) (hv : v.oneCell' = true)
    (hK : ∀ w1, Sat Γ (L.set k (.blk b (cs.set i v) t)) w1 → K w1) : wrAt w ⟨b, i, none⟩ 0 [v] ∧ ∀ w1, w1 = setCells w ⟨b, i, none⟩ 0 [v] → K w1 := by
  have hb := h.blk hk
  refine ⟨st_ok (i := i) hb (by simpa using hi) hv, fun w1 hw => hK w1 ?_⟩
  obtain ⟨I, E, h1, h2, h3, h4, h5, h6⟩ := h.turn hk
  obtain ⟨k1, k2, k3⟩ := st_fx (i := i) hb hw
  refine h6 w1 _ E (k2.mono fun j _ e => by subst e; exact h4.1) ⟨h4.1, ?_⟩ fun c hc => ⟨by have := h2 c hc; omega, .inl hc⟩
  rw [k1]; simp
/-- A store of a whole block. -/
theorem Sat.stAll (h : Sat Γ L w) {k b t : Nat} {cs vs : List Value} {K : World → Prop} (hk : L[k]? = some (.blk b cs t)) (hl : vs.length = cs.length) (hv : ∀ v ∈ vs, v.oneCell' = true)
    (hK : ∀ w1, Sat Γ (L.set k (.blk b vs t)) w1 → K w1) : wrAt w ⟨b, 0, none⟩ 0 vs ∧ ∀ w1, w1 = setCells w ⟨b, 0, none⟩ 0 vs → K w1 := by
  have hb := h.blk hk
  obtain ⟨j1, j2, j3, j4⟩ := stN (vs := vs) (i := 0) (k := 0) hb (by simp [hl]) hv
  refine ⟨j1, fun w1 hw => hK w1 ?_⟩
  subst hw
  obtain ⟨I, E, h1, h2, h3, h4, h5, h6⟩ := h.turn hk
  refine h6 _ _ E (j3.mono fun j _ e => by subst e; exact h4.1) ⟨h4.1, ?_⟩ fun c hc => ⟨by have := h2 c hc; omega, .inl hc⟩
  rw [j2]
  simp [hl]

/-- The first state: all old blocks are such that no one turns them. -/
def PP.old (w0 : World) : PP := ⟨fun w I => (∀ b, b < w0.heap.size → I b) ∧ Agr (fun b => b < w0.heap.size) w0 w, fun ⟨h, k⟩ h' => ⟨h, k.trans (h'.mono fun b _ hb => h b hb)⟩, fun {w I I'} ⟨h, k⟩ h' => ⟨fun b hb => h' b (Nat.lt_of_lt_of_le hb k.size) (h b hb), k⟩⟩
theorem Sat.start (w : World) {Γ : List PP} (h : ∀ p ∈ Γ, p.ok w fun b => b < w.heap.size) : Sat (.old w :: Γ) [] w := by
  refine ⟨fun b => if b < w.heap.size then .imm else .none, fun b hb => by simp [Nat.not_lt.2 hb], fun p hp => ?_, fun i P hi => by simp at hi⟩
  rcases List.mem_cons.1 hp with rfl | hp
  · exact ⟨fun b hb => by simp [hb], Agr.refl _ _⟩
  · exact p.mono (h p hp) fun b hb _ => by simp [hb]
theorem Sat.isOld (h : Sat Γ L w) {w0 : World} (hm : PP.old w0 ∈ Γ) : Agr (fun b => b < w0.heap.size) w0 w := by
  obtain ⟨I, _, hp⟩ := h.pers hm
  exact hp.2
end
end Go.Den

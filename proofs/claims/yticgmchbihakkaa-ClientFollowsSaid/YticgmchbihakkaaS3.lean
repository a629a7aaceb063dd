/- Separation, part 3: iterators. -/
import Derived.Test.YticgmchbihakkaaS2
set_option linter.unusedVariables false
set_option linter.unusedSimpArgs false
namespace Go.Den
open Go

/-- What a loop's body owes to the iterator that calls it: I: what holds when the items of a list have come; Ix: when a round has left. F: what the iterator keeps for itself. -/
def Body {ι : Type} (P : Program) (l : Nat) (items : List ι) (enc : ι → List Value → Prop) (rep : ι → List Value → PP) (I Ix : List ι → List PP → List HP → Prop) : Prop :=
  ∀ pre x vs Δ R F w, I pre Δ R → pre ++ [x] <+: items → enc x vs → Sat (rep x vs :: Δ) (F :: R) w →
    yldD P l vs w fun v' w' => ∃ Δ' R', Sat Δ' (F :: R') w' ∧ ((v' = .bool true ∧ I (pre ++ [x]) Δ' R') ∨ (v' = .bool false ∧ Ix (pre ++ [x]) Δ' R'))
/-- What an iterator leaves. -/
def Iter {ι : Type} (items : List ι) (I Ix : List ι → List PP → List HP → Prop) (w : World) : Prop :=
  ∃ Δ R, Sat Δ R w ∧ (I items Δ R ∨ ∃ pre, pre <+: items ∧ Ix pre Δ R)

theorem IsRec.upd {n : Nat} {ρ : Slots} {ps : Array Nat} {as body : Code} {r : Loop} (h : IsRec n ρ ps as body r) (s : LoopState) (q : Option Code) : IsRec n ρ ps as body { r with state := s, pending := q } := ⟨h.params, h.assign, h.body, h.size, h.slots⟩
theorem IsRec.upd1 {n : Nat} {ρ : Slots} {ps : Array Nat} {as body : Code} {r : Loop} (h : IsRec n ρ ps as body r) (s : LoopState) : IsRec n ρ ps as body { r with state := s } := ⟨h.params, h.assign, h.body, h.size, h.slots⟩
theorem yldD_mono {P : Program} {l : Nat} {args : List Value} {w : World} {K K' : Value → World → Prop} (h : yldD P l args w K) (hk : ∀ v w', K v w' → K' v w') : yldD P l args w K' := by
  obtain ⟨fn, tmps, assign, body, hy, hR⟩ := h
  exact ⟨fn, tmps, assign, body, hy, hR.mono fun e w' ⟨v, h1, h2⟩ => ⟨v, h1, hk _ _ h2⟩⟩
theorem mh {p : PP} {Γ : List PP} : p ∈ p :: Γ := List.mem_cons_self
theorem mt {p q : PP} {Γ : List PP} (h : p ∈ Γ) : p ∈ q :: Γ := List.mem_cons_of_mem _ h
end Go.Den
namespace Go.Den
open Go
/-- Elements that are cells alone. -/
def Rp.plain {α : Type} (ty sz : Nat) (enc : α → List Value) (hl : ∀ a, (enc a).length = sz) (h1 : ∀ a, ∀ u ∈ enc a, u.oneCell' = true) (hp : 0 < sz) : Rp α :=
  ⟨ty, sz, fun _ _ cs a => cs = enc a, fun h _ => h, fun h _ => h, fun h => by rw [h]; exact hl _, fun h => by rw [h]; exact h1 _, hp⟩
theorem Sat.plain {α : Type} {Γ : List PP} {L : List HP} {w : World} {ty sz : Nat} {enc : α → List Value} {hl h1 hp} (h : Sat Γ L w) {cs : List Value} {a : α} (hm : (Rp.plain ty sz enc hl h1 hp).el cs a ∈ Γ) : cs = enc a := by
  obtain ⟨I, _, h⟩ := h.pers hm
  exact h
theorem Sat.elPlain {α : Type} {Γ : List PP} {L : List HP} {w : World} {ty sz : Nat} {enc : α → List Value} {hl h1 hp} (h : Sat Γ L w) (a : α) : Sat ((Rp.plain ty sz enc hl h1 hp).el (enc a) a :: Γ) L w := h.addp fun _ _ _ => rfl
/-- A list's own persistents are enough. -/
theorem Sat.keep {Γ : List PP} {L : List HP} {w : World} {p q : PP} (h : Sat (p :: q :: Γ) L w) : Sat (p :: Γ) L w := h.sub fun r hr => by
  rcases List.mem_cons.1 hr with rfl | hr
  · exact mh
  · exact mt (mt hr)
end Go.Den
namespace Go.Den
open Go
theorem Sat.weak {Γ Γ' : List PP} {L L' : List HP} {w : World} (h : Sat (Γ' ++ Γ) (L' ++ L) w) : Sat Γ L w := by
  have h1 : Sat Γ (L' ++ L) w := h.sub fun p hp => List.mem_append_right _ hp
  clear h
  induction L' with
  | nil => exact h1
  | cons P L' ih => exact ih h1.drop
theorem Sat.any {Γ : List PP} {L : List HP} {w : World} (h : Sat Γ L w) (p : PP) (hp : ∀ I : Nat → Prop, p.ok w I) : Sat (p :: Γ) L w := h.addp fun I _ _ => hp I
end Go.Den
namespace Go.Den
open Go
theorem add_add' (a : Addr) (m n : Nat) : (a.add m).add n = a.add (m + n) := by
  unfold Addr.add
  split <;> split <;> simp_all <;> omega
theorem cellsAt_get {w : World} {a : Addr} {cs : List Value} (h : cellsAt w a 0 cs) {i : Nat} {v : Value} (hi : cs[i]? = some v) : w.cell? (a.add i) = some v := by
  have := cellsAt_spec h i v hi
  simpa using this
end Go.Den
namespace Go.Den
open Go
def allOne : List Value → Bool
  | [] => true
  | v :: l => v.oneCell' && allOne l
theorem one_of : ∀ {l : List Value}, allOne l = true → ∀ u ∈ l, u.oneCell' = true
  | [], _, u, h => by cases h
  | v :: l, h, u, hu => by
    simp only [allOne, Bool.and_eq_true] at h
    rcases List.mem_cons.1 hu with rfl | hu
    · exact h.1
    · exact one_of h.2 u hu
end Go.Den

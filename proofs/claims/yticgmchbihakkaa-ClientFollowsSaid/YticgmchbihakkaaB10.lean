/- Reading fields and records: Num, Bytes, bytesOf, body. -/
import Derived.Test.YticgmchbihakkaaB9
set_option linter.unusedVariables false
set_option linter.unusedSimpArgs false
namespace Go.Proofs.Yticgmchbihakkaa
open Go Go.Den
set_option maxRecDepth 100000

theorem getGo_spec : ∀ (xs : Bytes) (i u v k : Nat), getGo xs i u = some (v, k) → (i ≤ 9 → u < 2 ^ (7 * i)) → i < k ∧ k ≤ i + xs.length ∧ v < 2 ^ 64
  | [], i, u, v, k, h, hu => by simp [getGo] at h
  | c :: l, i, u, v, k, h, hu => by
    rw [getGo] at h
    have hc := c.toNat_lt
    split at h
    · cases h
    · rename_i h9
      have hi : i ≤ 9 := by omega
      obtain ⟨_, p2, p3⟩ := part64 u i c hi (by omega) (hu hi)
      split at h
      · have := getGo_spec l (i + 1) _ v k h fun h' => p3 (by omega)
        simp only [List.length_cons]
        omega
      · split at h
        · cases h
        · cases h
          simp only [List.length_cons]
          refine ⟨by omega, by omega, p2⟩
theorem zagN_rng (u : Nat) (h : u < 2 ^ 64) : i64R (zagN u) := by
  unfold zagN i64R
  split <;> omega
theorem getN_spec {xs : Bytes} {n : Int} {k : Nat} (h : getN xs = some (n, k)) : 0 < k ∧ k ≤ xs.length ∧ i64R n := by
  unfold getN at h
  cases hg : getGo xs 0 0 with
  | none => rw [hg] at h; cases h
  | some x =>
    obtain ⟨v, k'⟩ := x
    rw [hg] at h
    simp only [Option.map_some, Option.some.injEq, Prod.mk.injEq] at h
    obtain ⟨rfl, rfl⟩ := h
    obtain ⟨h1, h2, h3⟩ := getGo_spec xs 0 0 v k' hg fun _ => by simp
    exact ⟨h1, by omega, zagN_rng v h3⟩

def rNum (s : Bytes × Nat) : Int × (Bytes × Nat) :=
  if s.2 ≠ 0 then (0, s) else match getN s.1 with
  | some (n, k) => (n, (s.1.drop k, 0))
  | none => (0, (s.1, 2))
def rBytes (most : Int) (s : Bytes × Nat) : Bytes × (Bytes × Nat) :=
  if s.2 ≠ 0 then ([], s) else match getN s.1 with
  | none => ([], (s.1, 2))
  | some (n, k) => if n < 0 ∨ ((s.1.length - k : Nat) : Int) < n then ([], (s.1, 2)) else if most < n then ([], (s.1, 3)) else ((s.1.drop k).take n.toNat, ((s.1.drop k).drop n.toNat, 0))

theorem rNum_len (s : Bytes × Nat) : (rNum s).2.1.length ≤ s.1.length := by
  unfold rNum
  split
  · exact Nat.le_refl _
  · split
    · simp
    · exact Nat.le_refl _
theorem rNum_rng (s : Bytes × Nat) : i64R (rNum s).1 := by
  unfold rNum
  split
  · unfold i64R; simp
  · split
    · rename_i h; exact (getN_spec h).2.2
    · unfold i64R; simp

theorem f90 (w : World) (a : Nat) (G : Option Nat) (xs : Bytes) (e : Nat) (h : IsR w a G xs e) :
    Meets Try.prog 90 [ptr a] w fun v' w' => v' = vi (rNum (xs, e)).1 ∧ IsR w' a G (rNum (xs, e)).2.1 (rNum (xs, e)).2.2 ∧ Fr (· = a) w w' := by
  refine spec_of Try.func90 Try.ntmps90 Try.results90 rfl (by kernel_rfl) rfl ?_
  refine (f92 w a G xs e h).mono ?_
  rintro _ w ⟨rfl, rfl⟩
  have hne := h.ne
  refine ⟨fun h' => ?_, fun h' => ?_⟩
  · have he : e ≠ 0 := by simp at h'; omega
    have hr : rNum (xs, e) = (0, (xs, e)) := by simp [rNum, he]
    rw [hr]
    exact ⟨rfl, h, Fr.refl _ _⟩
  have he : e = 0 := by simp at h'; omega
  subst he
  obtain ⟨sl, hb, hx, hne'⟩ := id h
  obtain ⟨A, c, rfl, _⟩ := hx.val
  refine ⟨_, rfl, _, rfl, _, _, ⟨rfl, cell_of hb rfl⟩, ?_⟩
  refine (f136 w _ G xs hx).mono ?_
  rintro _ w ⟨rfl, rfl⟩
  unfold getV
  cases hg : getN xs with
  | none =>
    have hr : rNum (xs, 0) = (0, (xs, 2)) := by simp [rNum, hg]
    rw [hr]
    refine ⟨fun _ => ?_, fun h' => (by cases h')⟩
    refine (f137 w a G xs 0 2 h).mono ?_
    rintro _ w1 ⟨h2, h3⟩
    exact ⟨rfl, h2, h3⟩
  | some x =>
    obtain ⟨n, k⟩ := x
    obtain ⟨k0, k1, k2⟩ := getN_spec hg
    have hr : rNum (xs, 0) = (n, (xs.drop k, 0)) := by simp [rNum, hg]
    rw [hr]
    refine ⟨fun h' => (by cases h'), fun _ => ?_⟩
    refine ⟨_, rfl, _, rfl, _, _, ⟨rfl, cell_of hb rfl⟩, ?_⟩
    refine ⟨⟨Int.natCast_nonneg _, by omega⟩, ?_⟩
    rintro A2 rfl
    refine ⟨_, rfl, _, rfl, ?_⟩
    refine ⟨st_ok (i := 0) hb (by simp) rfl, fun w4 hw4 => ?_⟩
    obtain ⟨s1, s2, s3⟩ := st_fx (i := 0) hb hw4
    exact ⟨rfl, ⟨_, s1, (hx.from k k1).fr s2 fun b hb _ => hne b hb, hne⟩, s2⟩

theorem f135 (w : World) (a : Nat) (G : Option Nat) (xs : Bytes) (e : Nat) (most : Int) (h : IsR w a G xs e) (hl : xs.length ≤ 100000000000) :
    Meets Try.prog 135 [ptr a, vi most] w fun v' w' => Fr (· = a) w w' ∧ (∃ G', (∀ b, G' = some b → w.heap.size ≤ b) ∧ IsB w' v' G' (rBytes most (xs, e)).1) ∧ IsR w' a G (rBytes most (xs, e)).2.1 (rBytes most (xs, e)).2.2 := by
  refine spec_of Try.func135 Try.ntmps135 Try.results135 rfl (by kernel_rfl) rfl ?_
  refine (f92 w a G xs e h).mono ?_
  rintro _ w ⟨rfl, rfl⟩
  have hne := h.ne
  have hnil : ∀ u : World, ∃ G' : Option Nat, (∀ b, G' = some b → w.heap.size ≤ b) ∧ IsB u (.slice none 0 0) G' [] := fun u => ⟨none, by simp, .nil u⟩
  refine ⟨fun h' => ?_, fun h' => ?_⟩
  · have he : e ≠ 0 := by simp at h'; omega
    have hr : rBytes most (xs, e) = ([], (xs, e)) := by simp [rBytes, he]
    rw [hr]
    exact ⟨Fr.refl _ _, hnil _, h⟩
  have he : e = 0 := by simp at h'; omega
  subst he
  obtain ⟨sl, hb, hx, hne'⟩ := id h
  obtain ⟨A, c, rfl, _⟩ := hx.val
  refine ⟨_, rfl, _, rfl, _, _, ⟨rfl, cell_of hb rfl⟩, ?_⟩
  refine (f136 w _ G xs hx).mono ?_
  rintro _ w ⟨rfl, rfl⟩
  unfold getV
  cases hg : getN xs with
  | none =>
    have hr : rBytes most (xs, 0) = ([], (xs, 2)) := by simp [rBytes, hg]
    rw [hr]
    refine ⟨_, fun _ => rfl, _, fun _ => rfl, _, _, fun _ => ⟨rfl, cell_of hb rfl⟩, ?_⟩
    refine ⟨fun _ => ?_, fun h' => (by cases h')⟩
    refine (f137 w a G xs 0 2 h).mono ?_
    rintro _ w1 ⟨h2, h3⟩
    exact ⟨h3, hnil _, h2⟩
  | some x =>
    obtain ⟨n, k⟩ := x
    obtain ⟨k0, k1, k2⟩ := getN_spec hg
    unfold i64R at k2
    have ek : IntKind.i64.wrap ((xs.length : Int) - k) = ((xs.length - k : Nat) : Int) := by rw [w64 (by omega)]; omega
    refine ⟨_, fun _ => rfl, _, fun _ => rfl, _, _, fun _ => ⟨rfl, cell_of hb rfl⟩, ?_⟩
    refine ⟨fun h' => ?_, fun h' => ?_⟩
    · have hc : n < 0 ∨ ((xs.length - k : Nat) : Int) < n := by
        rw [ek] at h'
        simp only [Bool.or_eq_true, decide_eq_true_eq] at h'
        rcases h' with (h' | h') | h'
        · cases h'
        · exact .inl h'
        · exact .inr h'
      have hr : rBytes most (xs, 0) = ([], (xs, 2)) := by simp only [rBytes, hg]; rw [if_neg (by simp), if_pos hc]
      rw [hr]
      refine (f137 w a G xs 0 2 h).mono ?_
      rintro _ w1 ⟨h2, h3⟩
      exact ⟨h3, hnil _, h2⟩
    · have hc : ¬ (n < 0 ∨ ((xs.length - k : Nat) : Int) < n) := by
        rw [ek] at h'
        simp only [Bool.or_eq_false_iff, decide_eq_false_iff_not] at h'
        rintro (h | h)
        · exact h'.1.2 h
        · exact h'.2 h
      refine ⟨fun h2 => ?_, fun h2 => ?_⟩
      · have hm : most < n := of_decide_eq_true h2
        have hr : rBytes most (xs, 0) = ([], (xs, 3)) := by simp only [rBytes, hg]; rw [if_neg (by simp), if_neg hc, if_pos hm]
        rw [hr]
        refine (f137 w a G xs 0 3 h).mono ?_
        rintro _ w1 ⟨h2, h3⟩
        exact ⟨h3, hnil _, h2⟩
      · have hm : ¬ most < n := of_decide_eq_false h2
        have hr : rBytes most (xs, 0) = ((xs.drop k).take n.toNat, ((xs.drop k).drop n.toNat, 0)) := by simp only [rBytes, hg]; rw [if_neg (by simp), if_neg hc, if_neg hm]
        rw [hr]
        refine ⟨_, rfl, _, rfl, _, _, ⟨rfl, cell_of hb rfl⟩, ?_⟩
        refine ⟨⟨Int.natCast_nonneg _, by omega⟩, ?_⟩
        rintro A2 rfl
        refine ⟨_, rfl, _, rfl, ?_⟩
        refine ⟨st_ok (i := 0) hb (by simp) rfl, fun w4 hw4 => ?_⟩
        obtain ⟨s1, s2, s3⟩ := st_fx (i := 0) hb hw4
        have hr4 : IsR w4 a G (xs.drop k) 0 := ⟨_, s1, (hx.from k k1).fr s2 fun b hb _ => hne b hb, hne⟩
        have o := f157 w4 a G (xs.drop k) 0 n.toNat hr4 (by simp; omega)
        rw [show ((n.toNat : Nat) : Int) = n by omega] at o
        refine o.mono ?_
        rintro v5 w5 ⟨g1, G', g2, g3⟩
        rw [if_pos ⟨rfl, by simp; omega⟩] at g3
        exact ⟨s2.andThen g1 fun _ h => .inl h, ⟨G', fun b hb => by have := g2 b hb; omega, g3.1⟩, g3.2⟩

/-- Bytes that may be wanting, behind them: what is left, an error. -/
def rOpt (xs : Bytes) : Bool × Bytes × (Bytes × Nat) :=
  if (getN xs).map (·.1) = some (-1) then (false, [], (rNum (xs, 0)).2) else (true, (rBytes 65536 (xs, 0)).1, (rBytes 65536 (xs, 0)).2)

theorem f205 (w : World) (a : Nat) (G : Option Nat) (xs : Bytes) (v : Value) (Gp : Option Nat) (p : Bytes) (m : Nat) (h : IsR w a G xs 0) (hp : IsB w v Gp p) (hm : m ≤ p.length) (hs : xs = p.drop m) (hl : p.length ≤ 100000000000) :
    Meets Try.prog 205 [ptr a, v] w fun v' w' => Fr (· = a) w w' ∧ (∃ u G', v' = .tuple #[.bool (rOpt xs).1, u] ∧ (∀ b, G' = some b → w.heap.size ≤ b) ∧ IsB w' u G' (rOpt xs).2.1) ∧ IsR w' a G (rOpt xs).2.2.1 (rOpt xs).2.2.2 := by
  obtain ⟨A, c, rfl, _⟩ := hp.val
  refine spec_of Try.func205 Try.ntmps205 Try.results205 rfl (by kernel_rfl) rfl ?_
  refine (f93 w a G xs 0 h).mono ?_
  rintro _ w ⟨rfl, rfl⟩
  have hxl : xs.length = p.length - m := by rw [hs]; simp
  have ei : IntKind.i64.wrap ((p.length : Int) - ((if (0 : Nat) = 0 then xs.length else 0 : Nat) : Int)) = (m : Int) := by
    rw [if_pos rfl, w64 (by omega)]; omega
  refine ⟨?_, ?_⟩
  · show 0 ≤ IntKind.i64.wrap _ ∧ IntKind.i64.wrap _ ≤ _
    rw [ei]; omega
  intro A2 hA2
  rw [ei] at hA2 ⊢
  subst hA2
  have hx := hp.from m hm
  rw [← hs] at hx
  refine (f136 w _ Gp xs hx).mono ?_
  rintro _ w ⟨rfl, rfl⟩
  have hlx : xs.length ≤ 100000000000 := by omega
  have go : (getN xs).map (·.1) ≠ some (-1) → Meets Try.prog 135 [ptr a, vi 65536] w fun v' w' => Fr (· = a) w w' ∧ (∃ u G', Value.tuple #[.bool true, v'] = .tuple #[.bool (rOpt xs).1, u] ∧ (∀ b, G' = some b → w.heap.size ≤ b) ∧ IsB w' u G' (rOpt xs).2.1) ∧ IsR w' a G (rOpt xs).2.2.1 (rOpt xs).2.2.2 := by
    intro hne
    refine (f135 w a G xs 0 65536 h hlx).mono ?_
    rintro v1 w1 ⟨g1, ⟨G', g2, g3⟩, g4⟩
    have : rOpt xs = (true, (rBytes 65536 (xs, 0)).1, (rBytes 65536 (xs, 0)).2) := by unfold rOpt; rw [if_neg hne]
    rw [this]
    exact ⟨g1, ⟨v1, G', rfl, g2, g3⟩, g4⟩
  unfold getV
  cases hg : getN xs with
  | none =>
    refine ⟨fun h' => (by cases h'), fun _ => ?_⟩
    exact go (by rw [hg]; simp)
  | some x =>
    obtain ⟨n, k⟩ := x
    refine ⟨fun h' => ?_, fun h' => ?_⟩
    · have hn : n = -1 := by
        have h' : (decide ((0 : Int) = 0) && decide (n = -1)) = true := h'
        simpa using h'
      refine (f90 w a G xs 0 h).mono ?_
      rintro v1 w1 ⟨rfl, g2, g3⟩
      have : rOpt xs = (false, [], (rNum (xs, 0)).2) := by unfold rOpt; rw [if_pos (by rw [hg, hn]; rfl)]
      rw [this]
      exact ⟨g3, ⟨_, none, rfl, by simp, .nil _⟩, g2⟩
    · have hn : n ≠ -1 := by
        have h' : (decide ((0 : Int) = 0) && decide (n = -1)) = false := h'
        simpa using h'
      exact go (by rw [hg]; simpa using hn)

end Go.Proofs.Yticgmchbihakkaa

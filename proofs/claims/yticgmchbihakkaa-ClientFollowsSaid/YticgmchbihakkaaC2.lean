/- First: the batch that bytes begin with. -/
import Derived.Test.YticgmchbihakkaaC1
set_option linter.unusedVariables false
set_option linter.unusedSimpArgs false
namespace Go.Proofs.Yticgmchbihakkaa
open Go Go.Den
set_option maxRecDepth 100000

/-- The batch that bytes begin with. -/
def firstD (p : Bytes) : Option (Bat × Nat) :=
  let x1 := rFix (p.take 12, 0) 8
  let x2 := rFix x1.2 4
  if x2.2.2 ≠ 0 ∨ p.length < 12 + x2.1 ∨ 65536 < 12 + x2.1 then none else (readD (p.take (12 + x2.1))).map fun b => (b, 12 + x2.1)

theorem rFix4 (s : Bytes × Nat) : (rFix s 4).1 < 2 ^ 32 := by
  unfold rFix
  split
  · simp
  · split
    · simp
    · rename_i h0
      have hb := beN_lt (s.1.take 4)
      have : (s.1.take 4).length ≤ 4 := by simp; omega
      have : 256 ^ (s.1.take 4).length ≤ 256 ^ 4 := Nat.pow_le_pow_right (by decide) this
      show beN _ < _
      omega

def fUsed : Option (Bat × Nat) → Int
  | some x => x.2
  | none => 0
def fErr : Option (Bat × Nat) → Int
  | some _ => 0
  | none => 2

section
variable {Γ : List PP} {L : List HP} {w : World}

theorem c118 (h : Sat Γ L w) {v : Value} {p : Bytes} (hv : byt v p ∈ Γ) (hl : p.length ≤ 100000000000) {R : Option (Bat × Nat)} (hR : R = firstD p) :
    Meets Try.prog 118 [v] w fun v' w' => ∃ us : List Value, v' = .tuple #[.agg us.toArray, vi (fUsed R), vi (fErr R)] ∧ us.length = 6 ∧ (∀ u ∈ us, u.oneCell' = true) ∧ Sat (batO us (R.map (·.1)) :: Γ) L w' := by
  obtain ⟨A, c, rfl, hc1, hc2⟩ := h.bytVal hv
  refine spec_of Try.func118 Try.ntmps118 Try.results118 rfl (by kernel_rfl) rfl ?_
  refine h.new fun b1 w1 hS => ?_
  have hS : Sat Γ (.blk b1 [vi 0, vi 0, vi 0, vi 0, vi 0, .slice none 0 0] 32 :: L) w1 := hS
  have em : min (p.length : Int) 12 = ((min p.length 12 : Nat) : Int) := by omega
  refine ⟨?_, ?_⟩
  · show 0 ≤ min (p.length : Int) 12 ∧ min (p.length : Int) 12 ≤ _
    omega
  have hS : Sat (byt (.slice A (min (p.length : Int) 12).toNat c) (p.take 12) :: Γ) (.blk b1 [vi 0, vi 0, vi 0, vi 0, vi 0, .slice none 0 0] 32 :: L) w1 := by
    rw [em, Int.toNat_natCast]
    have := hS.bytUpto hv (min p.length 12) (Nat.min_le_left _ _)
    rwa [show p.take (min p.length 12) = p.take 12 by
      rcases Nat.le_total p.length 12 with h | h
      · rw [Nat.min_eq_left h, List.take_of_length_le (Nat.le_refl _), List.take_of_length_le h]
      · rw [Nat.min_eq_right h]] at this
  refine (c88 hS mh (by simp; omega)).mono ?_
  rintro _ w2 ⟨a, rfl, hS⟩
  generalize hx1 : rFix (p.take 12, 0) 8 = x1
  refine (c116 hS (k := 0) rfl (size := 8) (by omega) (by omega) (by simp; omega) hx1).mono ?_
  rintro _ w3 ⟨rfl, hS⟩
  generalize hx2 : rFix x1.2 4 = x2
  have n1 : x1.2.1.length ≤ 12 := by rw [← hx1]; exact Nat.le_trans (rFix_len _ _) (by simp; omega)
  refine (c116 hS (k := 0) rfl (size := 4) (by omega) (by omega) (by omega) hx2).mono ?_
  rintro _ w4 ⟨rfl, hS⟩
  have g2 : x2.1 < 2 ^ 32 := by rw [← hx2]; exact rFix4 _
  have eu : IntKind.i64.wrap (12 + (x2.1 : Int)) = ((12 + x2.1 : Nat) : Int) := by rw [w64 (by omega)]; omega
  refine (c92 hS (k := 0) rfl).mono ?_
  rintro _ w4 ⟨rfl, rfl⟩
  have hfd : R = if x2.2.2 ≠ 0 ∨ p.length < 12 + x2.1 ∨ 65536 < 12 + x2.1 then none else (readD (p.take (12 + x2.1))).map fun b => (b, 12 + x2.1) := by
    rw [hR]
    simp only [firstD, hx1, hx2]
  have hS : Sat _ (rdr a x2.2.1 x2.2.2 :: .blk b1 [vi 0, vi 0, vi 0, vi 0, vi 0, .slice none 0 0] 32 :: L) w4 := hS
  have zone : ∀ x ∈ [vi 0, vi 0, vi 0, vi 0, vi 0, .slice none 0 0], x.oneCell' = true := by intro x hx; simp at hx; rcases hx with rfl | rfl <;> rfl
  have fin0 : ∀ (us : List Value) {Γ' : List PP} {L' : List HP} {u : World}, Sat (Γ' ++ Γ) (L' ++ L) u → Sat (batO us none :: Γ) L u := fun us Γ' L' u hu => by
    have h1 : Sat Γ (L' ++ L) u := hu.sub fun p hp => List.mem_append_right _ hp
    have h2 : Sat Γ L u := by
      clear hu
      induction L' with
      | nil => exact h1
      | cons P L' ih => exact ih h1.drop
    exact h2.addp fun I _ _ b hb => by cases hb
  refine ⟨fun hc => ?_, fun hc => ?_⟩
  · have hc : x2.2.2 ≠ 0 ∨ p.length < 12 + x2.1 ∨ 65536 < 12 + x2.1 := by
      rw [eu] at hc
      simp at hc
      omega
    rw [if_pos hc] at hfd
    subst hfd
    refine hS.stAll (vs := [vi 0, vi 0, vi 0, vi 0, vi 0, .slice none 0 0]) (k := 1) rfl rfl zone fun w5 hS => ?_
    exact ⟨_, ⟨rfl, hS.ldAll (k := 1) rfl⟩, [vi 0, vi 0, vi 0, vi 0, vi 0, .slice none 0 0], rfl, rfl, zone, fin0 _ (Γ' := [_]) (L' := [_, _]) hS⟩
  have hc : ¬ (x2.2.2 ≠ 0 ∨ p.length < 12 + x2.1 ∨ 65536 < 12 + x2.1) := by
    rw [eu] at hc
    simp at hc
    omega
  rw [if_neg hc] at hfd
  refine ⟨?_, ?_⟩
  · show 0 ≤ IntKind.i64.wrap (12 + (x2.1 : Int)) ∧ IntKind.i64.wrap (12 + (x2.1 : Int)) ≤ _
    rw [eu]
    omega
  have eN : (IntKind.i64.wrap (12 + (x2.1 : Int))).toNat = 12 + x2.1 := by rw [eu]; omega
  have hS := hS.bytUpto (mt hv) (IntKind.i64.wrap (12 + (x2.1 : Int))).toNat (by omega)
  generalize hrr : readD (p.take (12 + x2.1)) = rr at hfd
  refine (c158 hS mh (by simp; omega) (R := rr) (by rw [eN]; exact hrr.symm)).mono ?_
  rintro _ w5 ⟨us, rfl, hu1, hu2, hS⟩
  obtain ⟨y0, y1, y2, y3, y4, y5, rfl⟩ := six_of hu1
  refine hS.stAll (vs := [y0, y1, y2, y3, y4, y5]) (k := 1) rfl hu1 hu2 fun w6 hS => ?_
  refine ⟨fun hk => ?_, fun hk => ?_⟩
  · have hn : rr = none := by
      cases rr with
      | none => rfl
      | some b => cases hk
    subst hn
    subst hfd
    refine hS.stAll (vs := [vi 0, vi 0, vi 0, vi 0, vi 0, .slice none 0 0]) (k := 1) rfl hu1.symm zone fun w7 hS => ?_
    exact ⟨_, ⟨rfl, hS.ldAll (k := 1) rfl⟩, [vi 0, vi 0, vi 0, vi 0, vi 0, .slice none 0 0], rfl, rfl, zone, fin0 _ (Γ' := [_, _, _]) (L' := [_, _]) hS⟩
  · cases rr with
    | none => cases hk
    | some b =>
      subst hfd
      refine ⟨_, _, ⟨rfl, rfl, hS.ldAll (k := 1) rfl⟩, ?_⟩
      refine hS.stAll (vs := [y0, y1, y2, y3, y4, y5]) (k := 1) rfl rfl hu2 fun w7 hS => ?_
      refine ⟨_, ⟨rfl, hS.ldAll (k := 1) rfl⟩, [y0, y1, y2, y3, y4, y5], ?_, rfl, hu2, ?_⟩
      · show Value.tuple #[_, vi (IntKind.i64.wrap (12 + (x2.1 : Int))), _] = _
        rw [eu]; rfl
      · exact (hS.sub (Γ' := batO [y0, y1, y2, y3, y4, y5] (some b) :: Γ) fun q hq => by
          rcases List.mem_cons.1 hq with rfl | hq
          · exact mh
          · exact mt (mt (mt hq))).drop.drop
end
end Go.Proofs.Yticgmchbihakkaa

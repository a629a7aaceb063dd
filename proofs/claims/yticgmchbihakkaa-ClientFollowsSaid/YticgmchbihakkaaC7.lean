/- The document's reading of batches: GetFixed, GetBytes. -/
import Derived.Test.YticgmchbihakkaaC6
set_option linter.unusedVariables false
set_option linter.unusedSimpArgs false
namespace Go.Proofs.Yticgmchbihakkaa
open Go Go.Den
set_option maxRecDepth 100000

def gbD (xs : Bytes) (most : Int) : Bytes × Bytes × Nat :=
  match getN xs with
  | none => ([], [], 2)
  | some (n, k) => if n < 0 ∨ ((xs.length - k : Nat) : Int) < n then ([], [], 2) else if most < n then ([], [], 3) else ((xs.drop k).take n.toNat, (xs.drop k).drop n.toNat, 0)

section
variable {Γ : List PP} {L : List HP} {w : World}

theorem _root_.Go.Den.Sat.bytPart (h : Sat Γ L w) {A : Option Addr} {n c : Nat} {xs : Bytes} (hm : Yticgmchbihakkaa.byt (.slice A n c) xs ∈ Γ) (lo hi : Nat) (h1 : lo ≤ hi) (h2 : hi ≤ n) :
    Sat (Yticgmchbihakkaa.byt (.slice (if c = lo then A else A.map (·.add (lo * 1))) (hi - lo) (c - lo)) ((xs.drop lo).take (hi - lo)) :: Γ) L w :=
  h.der hm fun I ⟨G, g1, g2⟩ => by
    have := g1.part lo hi h1 h2
    refine ⟨G, ?_, g2⟩
    rwa [List.drop_take] at this
theorem c119 (h : Sat Γ L w) {v : Value} {xs : Bytes} (hv : byt v xs ∈ Γ) (hl : xs.length ≤ 8) : Meets Try.prog 119 [v] w fun v' w' => v' = vi (IntKind.i64.wrap (beN xs)) ∧ w' = w := by
  obtain ⟨G, h1⟩ := h.byt hv
  exact f119 w v G xs h1 hl
theorem c95 (h : Sat Γ L w) {v : Value} {xs : Bytes} (hv : byt v xs ∈ Γ) : Meets Try.prog 95 [v] w fun v' w' => v' = getV' xs ∧ w' = w := by
  obtain ⟨G, h1⟩ := h.byt hv
  exact f95 w v G xs h1
theorem c24 (h : Sat Γ L w) {v : Value} {b : Bat} (hv : bat v b ∈ Γ) : Meets Try.prog 24 [v] w fun v' w' => ∃ u, v' = .tuple #[u, vi (chk b)] ∧ Sat (byt u (if chk b = 0 then encB b else []) :: Γ) L w' := by
  obtain ⟨I, _, h1⟩ := h.pers hv
  refine (f24 w I v b h1).mono ?_
  rintro v' w' ⟨u, rfl, hf, hm⟩
  refine ⟨u, rfl, h.newp hf fun I => ?_⟩
  by_cases hc : chk b = 0
  · rw [if_pos hc] at hm ⊢
    exact ⟨_, .of hm.1, fun b hb => .inr (hm.2.2 b hb)⟩
  · rw [if_neg hc] at hm ⊢
    subst hm
    exact ⟨none, .nil _, by simp⟩

theorem c120 (h : Sat Γ L w) {v : Value} {xs : Bytes} (hv : byt v xs ∈ Γ) (most : Int) {q : Bytes × Bytes × Nat} (hq : gbD xs most = q) :
    Meets Try.prog 120 [v, vi most] w fun v' w' => ∃ u1 u2, v' = .tuple #[u1, u2, vi q.2.2] ∧ Sat (byt u1 q.1 :: byt u2 q.2.1 :: Γ) L w' := by
  obtain ⟨A, c, rfl, hc1, hc2⟩ := h.bytVal hv
  simp only [maxLen] at hc2
  refine spec_of Try.func120 Try.ntmps120 Try.results120 rfl (by kernel_rfl) rfl ?_
  refine (c95 h hv).mono ?_
  rintro _ w1 ⟨rfl, rfl⟩
  have nil2 : ∀ {e : Nat}, q = ([], [], e) → ∃ u1 u2, Value.tuple #[.slice none 0 0, .slice none 0 0, vi e] = .tuple #[u1, u2, vi q.2.2] ∧ Sat (byt u1 q.1 :: byt u2 q.2.1 :: Γ) L w1 := fun he => by subst he; exact ⟨_, _, rfl, h.bytNil.bytNil⟩
  unfold getV'
  unfold gbD at hq
  have hsp := @getN_spec xs
  cases hg : getN xs with
  | none =>
    rw [hg] at hq
    refine ⟨fun _ => ?_, fun h => by cases h⟩
    exact nil2 hq.symm
  | some x =>
    obtain ⟨n, k⟩ := x
    obtain ⟨k1, k2, k3⟩ := hsp hg
    rw [hg] at hq
    dsimp only at hq
    unfold i64R at k3
    have e1 : IntKind.i64.wrap ((xs.length : Int) - k) = ((xs.length - k : Nat) : Int) := by rw [w64 (by omega)]; omega
    refine ⟨fun hc => ?_, fun hc => ?_⟩
    · have hc : n < 0 := by
        have hc : (decide ((k : Int) = 0) || decide (n < 0)) = true := hc
        simp at hc; omega
      rw [if_pos (.inl hc)] at hq
      exact nil2 hq.symm
    have hn : ¬ n < 0 := by
      have hc : (decide ((k : Int) = 0) || decide (n < 0)) = false := hc
      simp at hc; omega
    have hn' : (n.toNat : Int) = n := by omega
    refine ⟨fun hc => ?_, fun hc => ?_⟩
    · have hc : ((xs.length - k : Nat) : Int) < n := by
        have hc : decide (IntKind.i64.wrap ((xs.length : Int) - k) < n) = true := hc
        rw [e1] at hc; simpa using hc
      rw [if_pos (.inr hc)] at hq
      exact nil2 hq.symm
    have hc : ¬ ((xs.length - k : Nat) : Int) < n := by
      have hc : decide (IntKind.i64.wrap ((xs.length : Int) - k) < n) = false := hc
      rw [e1] at hc; simpa using hc
    rw [if_neg (by omega)] at hq
    refine ⟨fun hm => ?_, fun hm => ?_⟩
    · have hm : most < n := of_decide_eq_true hm
      rw [if_pos hm] at hq
      exact nil2 hq.symm
    have hm : ¬ most < n := of_decide_eq_false hm
    rw [if_neg hm] at hq
    subst hq
    have e2 : IntKind.i64.wrap ((k : Int) + n) = ((k + n.toNat : Nat) : Int) := by rw [w64 (by omega)]; omega
    have hS := h.drew
    refine ⟨hs [0, 1, 2, 3, 4, 5, 6, 7, 8, 9, 10, 11, 12, 13] .nil, fun _ => True, by kernel_rfl, by kernel_rfl, trivial, ?_⟩
    refine ⟨⟨Int.natCast_nonneg _, ?_, ?_⟩, ?_⟩
    · show (k : Int) ≤ IntKind.i64.wrap ((k : Int) + n)
      rw [e2]; omega
    · show IntKind.i64.wrap ((k : Int) + n) ≤ _
      rw [e2]; omega
    rintro _ rfl
    refine ⟨⟨?_, ?_⟩, ?_⟩
    · show 0 ≤ IntKind.i64.wrap ((k : Int) + n)
      rw [e2]; omega
    · show IntKind.i64.wrap ((k : Int) + n) ≤ _
      rw [e2]; omega
    rintro _ rfl
    have hS := hS.bytPart hv k (IntKind.i64.wrap ((k : Int) + n)).toNat (by rw [e2]; omega) (by rw [e2]; omega)
    have hS := hS.bytFrom (mt hv) (IntKind.i64.wrap ((k : Int) + n)).toNat (by rw [e2]; omega)
    refine ⟨_, _, rfl, ?_⟩
    have hS := hS.sub (Γ' := _ :: _ :: Γ) fun q hq => by
      rcases List.mem_cons.1 hq with rfl | hq
      · exact mt mh
      · rcases List.mem_cons.1 hq with rfl | hq
        · exact mh
        · exact mt (mt hq)
    have e3 : (IntKind.i64.wrap ((k : Int) + n)).toNat - k = n.toNat := by rw [e2]; omega
    have e4 : (xs.drop k).take ((IntKind.i64.wrap ((k : Int) + n)).toNat - k) = (xs.drop k).take n.toNat := by rw [e3]
    have e5 : xs.drop (IntKind.i64.wrap ((k : Int) + n)).toNat = (xs.drop k).drop n.toNat := by rw [e2, List.drop_drop]; rfl
    rw [e4, e5] at hS
    exact hS
end
end Go.Proofs.Yticgmchbihakkaa

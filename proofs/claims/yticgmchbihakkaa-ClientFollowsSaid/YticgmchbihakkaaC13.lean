/- OindexSeeks: its walk. -/
import Derived.Test.YticgmchbihakkaaL2
set_option linter.unusedVariables false
set_option linter.unusedSimpArgs false
namespace Go.Proofs.Yticgmchbihakkaa
open Go Go.Den
set_option maxRecDepth 100000

section
variable {Γ : List PP} {L : List HP} {w : World}

theorem _root_.Go.Den.Sat.atAt (h : Sat Γ L w) {A : Option Addr} {n c : Nat} {xs : List (Nat × Bat)} (hm : atR.sl (.slice A n c) xs ∈ Γ) (i : Nat) (hi : i < n) :
    ∃ a x, A = some a ∧ xs[i]? = some x ∧ w.cell? (((a.add (i * 7)).add 1).add 1) = some (vi x.2.last) ∧ w.cell? ((a.add (i * 7)).add 0) = some (vi x.1) := by
  obtain ⟨a, x, cs, e1, e2, e3, e4, hS9⟩ := h.slAt hm i hi
  obtain ⟨I, _, rv9, e5, _⟩ := hS9.pers mh
  subst e5
  refine ⟨a, x, e1, e2, ?_, ?_⟩
  · rw [add_add', add_add', ← add_add']
    exact cellsAt_get e4 (i := 2) rfl
  · exact cellsAt_get e4 (i := 0) rfl

set_option maxHeartbeats 400000 in
theorem c3 (h : Sat Γ L w) {v : Value} {p : Bytes} (hv : byt v p ∈ Γ) (every other off : Int) : Meets Try.prog 3 [v, vi every, vi other, vi off] w fun v' w' => v' = .bool true ∧ Sat Γ L w' := by
  obtain ⟨A, c, rfl, hc1, hc2⟩ := h.bytVal hv
  refine spec_of Try.func3 Try.ntmps3 Try.results3 rfl (by kernel_rfl) rfl ?_
  refine ⟨fun hc => ?_, fun hc => ?_⟩
  · refine (c12 h).mono ?_
    rintro _ w1 ⟨rfl, hS⟩
    exact ⟨rfl, hS⟩
  have hl : p.length ≤ 4000 := by have := of_decide_eq_false hc; omega
  refine (c14 h hv (by omega) every).mono ?_
  rintro v1 w1 hS
  refine (c13 hS (mt hv) mh (by omega) off).mono ?_
  rintro _ w2 ⟨rfl, hS⟩
  refine (c14 hS (mt hv) (by omega) other).mono ?_
  rintro v2 w3 hS
  refine (c13 hS (mt (mt hv)) mh (by omega) off).mono ?_
  rintro _ w4 ⟨rfl, hS⟩
  have hS := hS.slNil entR
  refine (c13 hS (mt (mt (mt hv))) mh (by omega) off).mono ?_
  rintro _ w5 ⟨rfl, hS⟩
  rw [seek_build, seek_build, seek_nil]
  refine (c15 hS (mt (mt (mt hv))) (by omega)).mono ?_
  rintro v3 w6 hS
  rw [rallB_eq] at hS
  obtain ⟨A3, c3, rfl, _, hc4, _⟩ := hS.slVal mh
  simp only [maxLen] at hc4
  generalize hfd : findD p off = f
  refine ⟨[16, 17, 18], by kernel_rfl, fun vs w' => ∃ (i : Nat) (want : Int) (met : Bool), vs = [vi want, .bool met, vi i] ∧ i ≤ (allB p).length ∧ ((met = false ∧ want = 0 ∧ ∀ y ∈ (allB p).take i, ¬ off ≤ y.2.last) ∨ (met = true ∧ f = (want, true))) ∧ Sat (atR.sl (.slice A3 (allB p).length c3) (allB p) :: entR.sl (.slice none 0 0) [] :: entR.sl v2 (buildD (allB p) other).1 :: entR.sl v1 (buildD (allB p) every).1 :: Γ) L w',
    fun vs _ => match vs with | [_, _, .int _ i] => ((allB p).length - i).toNat | _ => 0, ⟨0, 0, false, rfl, by omega, .inl ⟨rfl, rfl, by simp⟩, hS⟩, ?_⟩
  rintro _ w7 ⟨i, want, met, rfl, hi, hst, hS⟩
  refine ⟨rfl, fun hlt => ?_, fun hlt => ?_⟩
  · have hlt : (decide ((i : Int) < (allB p).length) && !met) = true := hlt
    have hm : met = false := by cases met; rfl; simp at hlt
    subst hm
    have hlt : i < (allB p).length := by simp at hlt; omega
    obtain ⟨_, rfl, hno⟩ := hst.resolve_right fun h => by cases h.1
    obtain ⟨a, x, rfl, hx, e1, e2⟩ := hS.atAt mh i hlt
    have ht : (allB p).take (i + 1) = (allB p).take i ++ [x] := by rw [List.take_add_one, hx]; rfl
    have ei : IntKind.i64.wrap ((i : Int) + 1) = ((i + 1 : Nat) : Int) := by rw [w64 (by omega)]; rfl
    refine ⟨_, ⟨rfl, Int.natCast_nonneg _, by omega⟩, _, rfl, _, rfl, _, _, ⟨rfl, e1⟩, ?_⟩
    refine ⟨fun hc => ?_, fun hc => ?_⟩
    · have hc : off ≤ x.2.last := of_decide_eq_true hc
      refine ⟨_, ⟨rfl, Int.natCast_nonneg _, by omega⟩, _, rfl, _, _, ⟨rfl, e2⟩, ?_⟩
      refine ⟨⟨i + 1, x.1, true, ?_, hlt, .inr ⟨rfl, hfd.symm.trans (findD_some hx hc hno)⟩, hS⟩, ?_⟩
      · show [_, _, vi (IntKind.i64.wrap ((i : Int) + 1))] = _
        rw [ei]
      · show (((allB p).length : Int) - IntKind.i64.wrap ((i : Int) + 1)).toNat < (((allB p).length : Int) - i).toNat
        rw [ei]; omega
    · have hc : ¬ off ≤ x.2.last := of_decide_eq_false hc
      refine ⟨⟨i + 1, 0, false, ?_, hlt, .inl ⟨rfl, rfl, ?_⟩, hS⟩, ?_⟩
      · show [_, _, vi (IntKind.i64.wrap ((i : Int) + 1))] = _
        rw [ei]
      · intro y hy
        rw [ht] at hy
        rcases List.mem_append.1 hy with hy | hy
        · exact hno y hy
        · simp at hy; subst hy; exact hc
      · show (((allB p).length : Int) - IntKind.i64.wrap ((i : Int) + 1)).toNat < (((allB p).length : Int) - i).toNat
        rw [ei]; omega
  · have hlt : (decide ((i : Int) < (allB p).length) && !met) = false := hlt
    have hf : f = (want, met) := by
      rcases hst with ⟨rfl, rfl, hno⟩ | ⟨rfl, h⟩
      · have : ¬ i < (allB p).length := by simp at hlt; omega
        rw [List.take_of_length_le (by omega)] at hno
        exact hfd.symm.trans (findD_none hno)
      · exact h
    subst hf
    have key : (decide (want = want) && (met == met)) = true := by simp
    refine Or.inl ?_
    refine ⟨fun _ => (c12 hS).mono ?_, fun h => absurd ⟨by simp, trivial⟩ h⟩
    rintro _ w8 ⟨rfl, hS⟩
    refine ⟨?_, hS.tail.tail.tail.tail⟩
    show Value.bool ((((((decide (want = want) && (met == met)) && decide (want = want)) && (met == met)) && decide (want = want)) && (met == met)) && true) = _
    simp
end
end Go.Proofs.Yticgmchbihakkaa

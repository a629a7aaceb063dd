/- ClientNothing: its walk. -/
import Derived.Test.YticgmchbihakkaaK11
set_option linter.unusedVariables false
set_option linter.unusedSimpArgs false
namespace Go.Proofs.Yticgmchbihakkaa
open Go Go.Den
set_option maxRecDepth 100000
section
variable {Γ : List PP} {L : List HP} {w : World}
theorem c20nil (h : Sat Γ L w) {xc code xo xl xg : Int} {mem lead : ByteArray} {names nums dv : Value} :
    Meets Try.prog 20 [nilP, .agg (rspC xc code xo xl xg mem lead names nums dv).toArray] w fun v' w' => v' = .tuple #[nilS, vi 1] ∧ Sat Γ L w' := by
  refine spec_of Try.func20 Try.ntmps20 Try.results20 rfl (by kernel_rfl) rfl ?_
  refine h.new fun b3 w1 hS => ?_
  refine ⟨fun _ => ?_, fun h => (by cases h)⟩
  exact ⟨rfl, hS.drop⟩
set_option maxHeartbeats 1000000 in
theorem c6 (h : Sat Γ L w) (n : Int) : Meets Try.prog 6 [vi n] w fun v' w' => v' = .bool true ∧ Sat Γ L w' := by
  refine spec_of Try.func6 Try.ntmps6 Try.results6 rfl (by kernel_rfl) rfl ?_
  refine (c26 h 1 (by decide) n).mono ?_
  rintro rv w1 hS
  refine (c25nil hS ⟨#[116]⟩ 0 rv).mono ?_
  rintro _ w2 ⟨rfl, hS⟩
  refine hS.tail.new fun b5 w3 hS => ?_
  refine hS.stAll (vs := rq0) (k := 0) rfl rfl (one_of rfl) fun w4 hS => ?_
  have hS := hS.drop
  refine (c27nil hS).mono ?_
  rintro _ w5 ⟨rfl, hS⟩
  refine hS.new fun b7 w6 hS => ?_
  refine hS.stAll (vs := rq0) (k := 0) rfl rfl (one_of rfl) fun w7 hS => ?_
  have hS := hS.drop
  refine (c28nil hS (xc := 0) (code := 0) (xo := 0) (xl := 0) (xg := 0) (mem := ⟨#[]⟩) (lead := ⟨#[]⟩) (names := nilS) (nums := nilS) (dv := nilS) rfl rfl rfl).mono ?_
  rintro _ w8 ⟨rfl, hS⟩
  refine (c20nil hS (xc := 0) (code := 0) (xo := 0) (xl := 0) (xg := 0) (mem := ⟨#[]⟩) (lead := ⟨#[]⟩) (names := nilS) (nums := nilS) (dv := nilS)).mono ?_
  rintro _ w9 ⟨rfl, hS⟩
  refine Or.inr ?_
  refine ⟨_, fun _ => (c29nil _ ⟨#[116]⟩ 0).mono fun _ _ h => h, ?_⟩
  refine Or.inr ?_
  refine ⟨_, fun _ => (c21nil _).mono fun _ _ h => h, ?_⟩
  refine Or.inl ?_
  refine ⟨fun _ => (c18nil hS 1).mono ?_, fun h => absurd ⟨rfl, trivial⟩ h⟩
  rintro _ w10 ⟨rfl, hS⟩
  refine Or.inl ?_
  refine ⟨fun _ => ?_, fun h => absurd ⟨rfl, trivial⟩ h⟩
  refine ⟨vi 0, w10, by kernel_rfl, ?_⟩
  refine Or.inl ?_
  refine ⟨fun _ => (c16 hS).mono ?_, fun h => absurd ⟨rfl, trivial⟩ h⟩
  rintro _ w11 ⟨rfl, hS⟩
  exact ⟨rfl, hS⟩
end
end Go.Proofs.Yticgmchbihakkaa

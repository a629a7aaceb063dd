/- What 'awake' of chapter 24 asks. -/
import Derived.Test.YticgmchbihakkaaK10
set_option linter.unusedVariables false
set_option linter.unusedSimpArgs false
namespace Go.Proofs.Yticgmchbihakkaa
open Go Go.Den
set_option maxRecDepth 100000
abbrev awB : Bat := ⟨0, 1, 1, 0, 0, renG 0 (recsV 2 1)⟩
theorem awB_ok : chk awB = 0 := by kernel_rfl
section
variable {Γ : List PP} {L : List HP} {w : World}
set_option maxHeartbeats 1000000 in
theorem c16 (h : Sat Γ L w) : Meets Try.prog 16 [] w fun v' w' => v' = .bool true ∧ Sat Γ L w' := by
  refine spec_of Try.func16 Try.ntmps16 Try.results16 rfl (by kernel_rfl) rfl ?_
  refine (c69 h).mono ?_
  rintro _ w1 ⟨a, m, rfl, hS⟩
  refine (c17 hS ⟨#[116]⟩ 0 5).mono ?_
  rintro _ w2 (⟨hc, _⟩ | ⟨_, r, rfl, hS⟩)
  · omega
  refine (c69bad _).mono ?_
  rintro _ w3 ⟨rfl, rfl⟩
  refine ⟨fun h => (by cases h), fun _ => ?_⟩
  refine (c26 hS 2 (by decide) 1).mono ?_
  rintro rv w4 hS
  have hl2 : (recsV 2 1).length = 2 := rfl
  refine (c25 hS (k := 1) (j := 2) rfl rfl ⟨#[116]⟩ 0 mh (by rw [hl2]; decide) (seq := 0) rfl (b := awB) rfl awB_ok).mono ?_
  rintro _ w5 ⟨q, u1, u2, rfl, hS⟩
  obtain ⟨U1, d1, rfl, _⟩ := hS.bytVal (mt mh)
  obtain ⟨U2, d2, rfl, _⟩ := hS.bytVal mh
  have hS := hS.tail.tail.tail
  have hS : Sat Γ (.blk q (rqC 4 1 ⟨#[116]⟩ 0 0 0 (.slice U2 (encB awB).length d2)) 42 :: .blk r (rdC ⟨#[116]⟩ 0 5 0) 137 :: .blk a (pdC 1 0 1 m (ptr q) 2) 146 :: .obj m (slotO [] 0) :: L) w5 := hS
  refine hS.new fun b7 w6 hS => ?_
  refine hS.stAll (vs := rqC 4 1 ⟨#[116]⟩ 0 0 0 (.slice U1 (encB awB).length d1)) (k := 0) rfl rfl (one_of rfl) fun w7 hS => ?_
  have hS : Sat Γ (.blk b7 (rqC 4 1 ⟨#[116]⟩ 0 0 0 (.slice U1 (encB awB).length d1)) 42 :: .blk q (rqC 4 1 ⟨#[116]⟩ 0 0 0 (.slice U2 (encB awB).length d2)) 42 :: .blk r (rdC ⟨#[116]⟩ 0 5 0) 137 :: .blk a (pdC 1 0 1 m (ptr q) 2) 146 :: .obj m (slotO [] 0) :: L) w7 := hS
  refine (c26 hS 1 (by decide) 1).mono ?_
  rintro rv2 w8 hS
  refine (c25wait hS (k := 3) rfl ⟨#[116]⟩ 0 rv2).mono ?_
  rintro _ w9 ⟨rfl, hS⟩
  refine hS.tail.new fun b9 w10 hS => ?_
  refine hS.stAll (vs := rq0) (k := 0) rfl rfl (one_of rfl) fun w11 hS => ?_
  have hS := hS.drop
  have hS : Sat Γ (.blk b7 (rqC 4 1 ⟨#[116]⟩ 0 0 0 (.slice U1 (encB awB).length d1)) 42 :: .blk q (rqC 4 1 ⟨#[116]⟩ 0 0 0 (.slice U2 (encB awB).length d2)) 42 :: .blk r (rdC ⟨#[116]⟩ 0 5 0) 137 :: .blk a (pdC 1 0 1 m (ptr q) 2) 146 :: .obj m (slotO [] 0) :: L) w11 := hS
  refine (c28 hS (k := 3) (j := 4) (l := 1) rfl rfl rfl (by decide) (xo := 9) (xl := 0) (xg := 0) (mem := ⟨#[]⟩) (lead := ⟨#[]⟩) (names := nilS) (nums := nilS) (xd := nilS) rfl rfl rfl).mono ?_
  rintro _ w12 ⟨rfl, hS⟩
  have hS : Sat Γ (.blk b7 (rqC 4 1 ⟨#[116]⟩ 0 0 0 (.slice U1 (encB awB).length d1)) 42 :: .blk q (rqC 4 1 ⟨#[116]⟩ 0 0 0 (.slice U2 (encB awB).length d2)) 42 :: .blk r (rdC ⟨#[116]⟩ 0 5 0) 137 :: .blk a (pdC 1 0 1 m nilP 2) 146 :: .obj m (slotO [((⟨#[116]⟩, 0), vi 2, 0)] 1) :: L) w12 := hS
  refine (c18 hS (k := 2) rfl 100).mono ?_
  rintro _ w13 ⟨rfl, hS⟩
  refine hS.new fun b13 w14 hS => ?_
  refine hS.stAll (vs := rqC 5 1 ⟨#[116]⟩ 0 5 100 nilS) (k := 0) rfl rfl (one_of rfl) fun w15 hS => ?_
  have hS : Sat Γ (.blk b13 (rqC 5 1 ⟨#[116]⟩ 0 5 100 nilS) 42 :: .blk b7 (rqC 4 1 ⟨#[116]⟩ 0 0 0 (.slice U1 (encB awB).length d1)) 42 :: .blk q (rqC 4 1 ⟨#[116]⟩ 0 0 0 (.slice U2 (encB awB).length d2)) 42 :: .blk r (rdC ⟨#[116]⟩ 0 5 1) 137 :: .blk a (pdC 1 0 1 m nilP 2) 146 :: .obj m (slotO [((⟨#[116]⟩, 0), vi 2, 0)] 1) :: L) w15 := hS
  refine ⟨_, fun _ => rfl, _, _, fun _ => ⟨rfl, cell_of (hS.blk (k := 1) rfl) rfl⟩, ?_⟩
  refine ⟨_, fun _ => rfl, _, _, fun _ => ⟨rfl, cell_of (hS.blk (k := 1) rfl) rfl⟩, ?_⟩
  refine Or.inr ?_
  refine ⟨vi 2, fun _ => (c29 hS (k := 4) (j := 5) rfl rfl ⟨#[116]⟩ 0).mono ?_, ?_⟩
  · rintro v' w' ⟨rfl, rfl⟩
    exact ⟨rfl, rfl⟩
  refine ⟨_, fun _ => rfl, _, _, fun _ => ⟨rfl, cell_of (hS.blk (k := 0) rfl) rfl⟩, ?_⟩
  refine ⟨_, fun _ => rfl, _, _, fun _ => ⟨rfl, cell_of (hS.blk (k := 0) rfl) rfl⟩, ?_⟩
  refine ⟨rfl, ?_⟩
  exact hS.drop.drop.drop.drop.drop.drop
end
end Go.Proofs.Yticgmchbihakkaa

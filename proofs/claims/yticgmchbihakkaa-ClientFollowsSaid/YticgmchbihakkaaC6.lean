/- oindex: Seek. -/
import Derived.Test.YticgmchbihakkaaC5
set_option linter.unusedVariables false
set_option linter.unusedSimpArgs false
namespace Go.Proofs.Yticgmchbihakkaa
open Go Go.Den
set_option maxRecDepth 100000

def seekOk (from0 off : Int) (x : Nat × Bat) : Bool := decide (from0 ≤ (x.1 : Int)) && decide (off ≤ x.2.last)
def seekV : Option (Nat × Bat) → Int × Bool
  | some x => (x.1, true)
  | none => (0, false)
def fromD (p : Bytes) (l : List Ent) (off : Int) : Int := if (allB p).any (fun x => decide ((x.1 : Int) = lookD l off)) then lookD l off else 0
def seekD (p : Bytes) (l : List Ent) (off : Int) : Int × Bool := seekV ((allB p).find? (seekOk (fromD p l off) off))

section
variable {Γ : List PP} {L : List HP} {w : World}

theorem c13 (h : Sat Γ L w) {v vl : Value} {p : Bytes} {xs : List Ent} (hv : byt v p ∈ Γ) (hx : entR.sl vl xs ∈ Γ) (hl : p.length ≤ 1000000000) (off : Int) :
    Meets Try.prog 13 [v, vl, vi off] w fun v' w' => v' = .tuple #[vi (seekD p xs off).1, .bool (seekD p xs off).2] ∧ Sat Γ L w' := by
  obtain ⟨A, c, rfl, hc1, hc2⟩ := h.bytVal hv
  have hfrom : fromD p xs off = if (allB p).any (fun x => decide ((x.1 : Int) = lookD xs off)) then lookD xs off else 0 := rfl
  have hsk : seekD p xs off = seekV ((allB p).find? (seekOk (fromD p xs off) off)) := rfl
  generalize seekD p xs off = res at hsk
  generalize fromD p xs off = fr at hfrom hsk
  refine spec_join Try.func13 Try.ntmps13 Try.results13 rfl (by kernel_rfl) rfl (J := [17]) ?_
  refine h.new fun b5 w1 hS => ?_
  refine hS.new fun b6 w2 hS => ?_
  refine hS.new fun b7 w3 hS => ?_
  have hS : Sat Γ (.blk b7 [.bool false] 4 :: .blk b6 [vi 0] 3 :: .blk b5 [vi off] 3 :: L) w3 := hS
  refine ⟨_, _, ⟨rfl, hS.ld (k := 2) (i := 0) rfl rfl⟩, ?_⟩
  refine (c65 hS hx off).mono ?_
  rintro _ w4 ⟨rfl, hS⟩
  refine hS.new fun b8 w5 hS => ?_
  have hS : Sat Γ (.blk b8 [vi 0] 3 :: .blk b7 [.bool false] 4 :: .blk b6 [vi 0] 3 :: .blk b5 [vi off] 3 :: L) w5 := hS
  refine hS.st (k := 0) (i := 0) rfl Nat.zero_lt_one rfl fun w6 hS => ?_
  refine ⟨_, _, ⟨rfl, hS.ld (k := 0) (i := 0) rfl rfl⟩, ?_⟩
  refine (c66 hS hv (by omega) _).mono ?_
  rintro _ w7 ⟨rfl, hS⟩
  refine ⟨[], fun vs w' => vs = [] ∧ Sat Γ (.blk b8 [vi fr] 3 :: .blk b7 [.bool false] 4 :: .blk b6 [vi 0] 3 :: .blk b5 [vi off] 3 :: L) w', by kernel_rfl, fun hc => ?_, fun hc => ?_, ?_⟩
  · refine hS.st (k := 0) (i := 0) rfl Nat.zero_lt_one rfl fun w8 hS => ?_
    have hc : ((allB p).any fun x => decide ((x.1 : Int) = lookD xs off)) = false := Bool.not_eq_true' _ |>.mp hc
    rw [hc] at hfrom
    subst hfrom
    exact ⟨rfl, hS⟩
  · have hc : ((allB p).any fun x => decide ((x.1 : Int) = lookD xs off)) = true := by
      have hc : (!((allB p).any fun x => decide ((x.1 : Int) = lookD xs off))) = false := hc
      simpa using hc
    rw [hc] at hfrom
    subst hfrom
    exact ⟨rfl, hS⟩
  rintro _ w8 ⟨rfl, hS⟩
  refine ⟨rfl, ?_⟩
  refine (c67 hS hv).mono ?_
  rintro _ w9 ⟨bc, rfl, hS⟩
  refine hS.enter fun r hr hrs hrp D l w10 hS => ?_
  have er : r = { r with state := .ready, pending := none } := by cases r; simp_all
  let St : Loop → Int × Bool → List HP := fun r s => .lrec l r :: .mark D :: .blk bc [.slice A p.length c] 22 :: .blk b8 [vi fr] 3 :: .blk b7 [.bool s.2] 4 :: .blk b6 [vi s.1] 3 :: .blk b5 [vi off] 3 :: L
  have hS : Sat Γ (St { r with state := .ready, pending := none } (0, false)) w10 := by rw [← er]; exact hS
  refine (c117 hS (k := 2) (v := .slice A p.length c) (p := p) (by omega) rfl (I := fun pre Δ R => Γ = Δ ∧ R = St { r with state := .ready, pending := none } (0, false) ∧ pre.find? (seekOk fr off) = none)
    (Ix := fun pre Δ R => Γ = Δ ∧ ∃ x, R = St { r with state := .done, pending := some (.exit 0) } (x.1, true) ∧ pre.find? (seekOk fr off) = some x) ⟨rfl, rfl, rfl⟩ ?_ ?_).mono ?_
  · rintro pre _ _ ⟨rfl, rfl, _⟩
    exact ⟨hv, rfl⟩
  · rintro pre x vs _ _ F w5 ⟨rfl, rfl, hno⟩ hpre ⟨u, rfl⟩ hS
    obtain ⟨rv, rfl, hS⟩ := hS.bat mh
    refine hS.yld (j := 1) (hr.upd _ _) rfl rfl rfl (J := []) ?_
    refine hS.new fun b10 w7 hS => ?_
    have hS : Sat _ (.blk b10 [vi 0, vi 0, vi 0, vi 0, vi 0, .slice none 0 0] 32 :: F :: St { r with state := .ready, pending := none } _) w7 := hS
    refine hS.stAll (vs := [vi x.2.base, vi x.2.last, vi x.2.prod, vi x.2.epoch, vi x.2.seq, rv]) (k := 0) rfl rfl (by
      obtain ⟨A3, c3, rfl, _⟩ := hS.slVal mh
      intro u hu; simp at hu; rcases hu with rfl | rfl | rfl | rfl | rfl | rfl <;> rfl) fun w8 hS => ?_
    have hS : Sat _ (.blk b10 [vi x.2.base, vi x.2.last, vi x.2.prod, vi x.2.epoch, vi x.2.seq, rv] 32 :: F :: St { r with state := .ready, pending := none } _) w8 := hS
    refine hS.begin (j := 2) rfl rfl fun w9 hS => ?_
    refine ⟨_, _, ⟨rfl, hS.ld (k := 5) (i := 0) rfl rfl⟩, _, fun _ => rfl, _, _, fun _ => ⟨rfl, cell_of (hS.blk (k := 0) rfl) rfl⟩, _, _, fun _ => ⟨rfl, hS.ld (k := 8) (i := 0) rfl rfl⟩, ?_⟩
    refine ⟨fun hc => ?_, fun hc => ?_⟩
    · have hc : seekOk fr off x = false := by
        have hc : (decide ((x.1 : Int) < fr) || decide (x.2.last < off)) = true := hc
        simp [seekOk] at *; omega
      refine ⟨_, hS.obj (k := 2) rfl, fun wE hwE => ?_⟩
      have hS := hS.putO (k := 2) rfl hwE
      exact ⟨_, _, (hS.tail.tail).drop, .inl ⟨rfl, rfl, rfl, by simp [List.find?_append, hno, hc]⟩⟩
    · have hc : seekOk fr off x = true := by
        have hc : (decide ((x.1 : Int) < fr) || decide (x.2.last < off)) = false := hc
        simp [seekOk] at *; omega
      refine hS.st (k := 7) (i := 0) rfl Nat.zero_lt_one rfl fun w10 hS => ?_
      refine hS.st (k := 6) (i := 0) rfl Nat.zero_lt_one rfl fun w11 hS => ?_
      refine ⟨_, hS.obj (k := 2) rfl, fun wE hwE => ?_⟩
      have hS := hS.putO (k := 2) rfl hwE
      exact ⟨_, _, (hS.tail.tail).drop, .inr ⟨rfl, rfl, x, rfl, by simp [List.find?_append, hno, hc]⟩⟩
  · skip
    rintro _ w5 ⟨_, _, hS, ⟨rfl, rfl, hno⟩ | ⟨pre, hpre, rfl, x, rfl, hyes⟩⟩
    · rw [hno] at hsk
      subst hsk
      refine hS.after (j := 0) rfl (by simp) fun w6 hS => ?_
      have hS := hS.drew
      refine ⟨hs [0, 1] (.one 2 true (.one 3 false .nil)), fun u => u.heap[b6]? = _ ∧ u.heap[b7]? = _, by kernel_rfl, by kernel_rfl, ⟨hS.blk (k := 5) rfl, hS.blk (k := 4) rfl⟩, ?_⟩
      refine ⟨_, _, ⟨rfl, fun u hu => cell_of hu.1 rfl⟩, _, _, ⟨rfl, fun u hu => cell_of hu.2 rfl⟩, ?_⟩
      refine hS.st (k := 5) (i := 0) rfl Nat.zero_lt_one rfl fun w7 hS => ?_
      refine ⟨⟨hS.blk (k := 5) rfl, hS.blk (k := 4) rfl⟩, ?_⟩
      refine hS.st (k := 4) (i := 0) rfl Nat.zero_lt_one rfl fun w8 hS => ?_
      refine hS.unmark (j := 1) rfl fun w9 hS => ?_
      exact ⟨_, hS.ld (k := 5) (i := 0) rfl rfl, _, hS.ld (k := 4) (i := 0) rfl rfl, rfl, hS.drop.drop.drop.drop.drop.drop.drop⟩
    · have : (allB p).find? (seekOk fr off) = some x := by
        obtain ⟨t, ht⟩ := hpre
        rw [← ht, List.find?_append, hyes]; rfl
      rw [this] at hsk
      subst hsk
      refine hS.after (j := 0) rfl (by simp) fun w6 hS => ?_
      have hS := hS.drew
      refine ⟨hs [0, 1] (.one 2 true (.one 3 false .nil)), fun u => u.heap[b6]? = _ ∧ u.heap[b7]? = _, by kernel_rfl, by kernel_rfl, ⟨hS.blk (k := 5) rfl, hS.blk (k := 4) rfl⟩, ?_⟩
      refine ⟨_, _, ⟨rfl, fun u hu => cell_of hu.1 rfl⟩, _, _, ⟨rfl, fun u hu => cell_of hu.2 rfl⟩, ?_⟩
      refine hS.st (k := 5) (i := 0) rfl Nat.zero_lt_one rfl fun w7 hS => ?_
      refine ⟨⟨hS.blk (k := 5) rfl, hS.blk (k := 4) rfl⟩, ?_⟩
      refine hS.st (k := 4) (i := 0) rfl Nat.zero_lt_one rfl fun w8 hS => ?_
      refine hS.unmark (j := 1) rfl fun w9 hS => ?_
      exact ⟨_, hS.ld (k := 5) (i := 0) rfl rfl, _, hS.ld (k := 4) (i := 0) rfl rfl, rfl, hS.drop.drop.drop.drop.drop.drop.drop⟩
end
end Go.Proofs.Yticgmchbihakkaa

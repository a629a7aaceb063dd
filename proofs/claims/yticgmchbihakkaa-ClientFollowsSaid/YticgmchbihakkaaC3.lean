/- All: the batches that bytes begin with. -/
import Derived.Test.YticgmchbihakkaaC2
set_option linter.unusedVariables false
set_option linter.unusedSimpArgs false
namespace Go.Proofs.Yticgmchbihakkaa
open Go Go.Den
set_option maxRecDepth 100000

theorem firstD_len {xs : Bytes} {b : Bat} {n : Nat} (h : firstD xs = some (b, n)) : 12 ≤ n ∧ n ≤ xs.length := by
  unfold firstD at h
  dsimp only at h
  split at h
  · cases h
  · rename_i hc
    cases hr : readD (xs.take (12 + (rFix (rFix (xs.take 12, 0) 8).2 4).1)) with
    | none => rw [hr] at h; cases h
    | some b' =>
      rw [hr] at h
      simp only [Option.map_some, Option.some.injEq, Prod.mk.injEq] at h
      omega

/-- The batches that bytes begin with, and where they begin. -/
def allF (xs : Bytes) (at0 : Nat) (last : Int) : List (Nat × Bat) :=
  match h : firstD xs with
  | none => []
  | some (b, n) => if b.base ≤ last then [] else (at0, b) :: allF (xs.drop n) (at0 + n) b.last
termination_by xs.length
decreasing_by
  have := firstD_len h
  simp
  omega
theorem allF_eq (xs : Bytes) (at0 : Nat) (last : Int) : allF xs at0 last = match firstD xs with
  | none => []
  | some (b, n) => if b.base ≤ last then [] else (at0, b) :: allF (xs.drop n) (at0 + n) b.last := by
  rw [allF]
  split <;> rename_i h <;> rw [h]
def allB (p : Bytes) : List (Nat × Bat) := allF p 0 (-1)

section
variable {Γ : List PP} {L : List HP} {w : World}

theorem c117 (h : Sat Γ L w) {b l k : Nat} {v : Value} {p : Bytes} (hl : p.length ≤ 100000000000) {items : List (Nat × Bat)} (hit : items = allB p) {I Ix : List (Nat × Bat) → List PP → List HP → Prop} (h0 : I [] Γ L)
    (hI : ∀ pre Δ R, I pre Δ R → byt v p ∈ Δ ∧ R[k]? = some (.blk b [v] 22)) (hY : Body Try.prog l items (fun x vs => ∃ u, vs = [vi x.1, u]) (fun x vs => bat (vs.getD 1 undef) x.2) I Ix) :
    Meets Try.prog 117 [.func (.yield l) #[] #[], ptr b] w fun _ w' => Iter items I Ix w' := by
  refine spec_of Try.func117 Try.ntmps117 Try.results117 rfl (by kernel_rfl) rfl ?_
  refine ⟨[3, 4], by kernel_rfl, fun vs w' => ∃ (at0 : Nat) (last : Int) (pre : List (Nat × Bat)) (Δ : List PP) (R : List HP), vs = [vi at0, vi last] ∧ at0 ≤ p.length ∧ items = pre ++ allF (p.drop at0) at0 last ∧ I pre Δ R ∧ Sat Δ R w', fun vs _ => match vs with | [.int _ a, _] => (p.length - a).toNat | _ => 0, ?_, ?_⟩
  · exact ⟨0, -1, [], Γ, L, rfl, by omega, hit, h0, h⟩
  rintro _ w1 ⟨at0, last, pre, Δ, R, rfl, hat, hrest, hi, hS⟩
  obtain ⟨hv, hk⟩ := hI _ _ _ hi
  obtain ⟨A, c, rfl, hc1, hc2⟩ := hS.bytVal hv
  refine ⟨rfl, _, _, ⟨rfl, hS.ld (k := k) (i := 0) hk rfl⟩, fun hlt => ?_, fun hlt => ?_⟩
  · have hlt : at0 < p.length := by simpa using hlt
    have hS := hS.bytFrom hv at0 (by omega)
    refine ⟨_, _, ⟨rfl, hS.ld (k := k) (i := 0) hk rfl⟩, ⟨Int.natCast_nonneg _, by omega⟩, ?_⟩
    rintro _ rfl
    have heq := allF_eq (p.drop at0) at0 last
    have hlen := @firstD_len (p.drop at0)
    generalize hR : firstD (p.drop at0) = Rr at heq hlen
    refine (c118 hS mh (by simp; omega) hR.symm).mono ?_
    rintro _ w2 ⟨us, rfl, hu1, hu2, hS⟩
    obtain ⟨y0, y1, y2, y3, y4, y5, rfl⟩ := six_of hu1
    refine hS.new fun b5 w3 hS => ?_
    have hS : Sat _ (.blk b5 [vi 0, vi 0, vi 0, vi 0, vi 0, .slice none 0 0] 32 :: R) w3 := hS
    refine hS.stAll (vs := [y0, y1, y2, y3, y4, y5]) (k := 0) rfl rfl hu2 fun w4 hS => ?_
    have hS : Sat _ (.blk b5 [y0, y1, y2, y3, y4, y5] 32 :: R) w4 := hS
    have lift : ∀ {q : PP}, q ∈ Δ → q ∈ batO [y0, y1, y2, y3, y4, y5] (Rr.map (·.1)) :: byt (.slice (if c = at0 then A else A.map (·.add (at0 * 1))) (p.length - at0) (c - at0)) (p.drop at0) :: Δ := fun h => mt (mt h)
    cases Rr with
    | none =>
      refine ⟨⟨0, 0, none⟩, fun h => (by cases h), ⟨0, 0, none⟩, vi 0, fun h => (by cases h), ?_⟩
      refine ⟨fun _ => ?_, fun h => by cases h⟩
      exact ⟨Δ, R, (hS.sub fun q hq => lift hq).drop, .inl (by rw [hrest, heq]; simpa using hi)⟩
    | some x =>
      obtain ⟨bb, n⟩ := x
      obtain ⟨rv, e, hS⟩ := hS.batO (b := bb) mh
      simp only [List.cons.injEq, and_true] at e
      obtain ⟨rfl, rfl, rfl, rfl, rfl, rfl⟩ := e
      refine ⟨_, fun _ => rfl, _, _, fun _ => ⟨rfl, hS.ld (k := 0) rfl rfl⟩, ?_⟩
      refine ⟨fun hc => ?_, fun hc => ?_⟩
      · have hc : bb.base ≤ last := by simpa [fErr] using hc
        exact ⟨Δ, R, (hS.sub fun q hq => mt (mt (lift hq))).drop, .inl (by rw [hrest, heq]; simpa [hc] using hi)⟩
      · have hc : ¬ bb.base ≤ last := by simpa [fErr] using hc
        simp only [hc, if_false] at heq
        refine ⟨_, _, ⟨rfl, rfl, hS.ldAll (k := 0) rfl⟩, ?_⟩
        have hS := hS.sub (Γ' := bat (.agg [vi bb.base, vi bb.last, vi bb.prod, vi bb.epoch, vi bb.seq, y5].toArray) bb :: Δ) fun q hq => by
          rcases List.mem_cons.1 hq with rfl | hq
          · exact mt mh
          · exact mt (mt (lift hq))
        refine yldD_mono (hY pre (at0, bb) _ Δ R _ w4 hi ⟨allF ((p.drop at0).drop n) (at0 + n) bb.last, by rw [hrest, heq, List.append_assoc]; rfl⟩ ⟨_, rfl⟩ hS) ?_
        rintro _ w5 ⟨Δ', R', hS, ⟨rfl, hi'⟩ | ⟨rfl, hi'⟩⟩
        · refine ⟨fun h => (by cases h), fun _ => ?_⟩
          refine ⟨hs [0, 1, 2, 3, 4, 5, 6] .nil, fun u => u.heap[b5]? = _, by kernel_rfl, by kernel_rfl, hS.drew.blk (k := 0) rfl, ?_⟩
          refine ⟨_, rfl, _, _, ⟨rfl, fun u hu => cell_of hu rfl⟩, ?_⟩
          have hl2 := hlen rfl
          have hdl : (p.drop at0).length = p.length - at0 := by simp
          have e1 : IntKind.i64.wrap ((at0 : Int) + n) = ((at0 + n : Nat) : Int) := by rw [w64 (by omega)]; omega
          refine ⟨⟨at0 + n, bb.last, pre ++ [(at0, bb)], Δ', R', ?_, by omega, ?_, hi', hS.drew.drop⟩, ?_⟩
          · show [vi (IntKind.i64.wrap ((at0 : Int) + n)), vi bb.last] = _
            rw [e1]
          · rw [hrest, heq, List.drop_drop]; simp
          · show ((p.length : Int) - IntKind.i64.wrap ((at0 : Int) + n)).toNat < ((p.length : Int) - at0).toNat
            rw [e1]; omega
        · refine ⟨fun _ => ?_, fun h => by cases h⟩
          exact ⟨Δ', R', hS.drop, .inr ⟨_, ⟨allF ((p.drop at0).drop n) (at0 + n) bb.last, by rw [hrest, heq, List.append_assoc]; rfl⟩, hi'⟩⟩
  · have hlt : at0 = p.length := by
      have hlt : decide ((at0 : Int) < p.length) = false := hlt
      simp at hlt; omega
    refine ⟨Δ, R, hS, .inl ?_⟩
    have : allF (p.drop at0) at0 last = [] := by
      rw [allF_eq]
      have : firstD (p.drop at0) = none := by
        cases hf : firstD (p.drop at0) with
        | none => rfl
        | some x =>
          have := firstD_len (b := x.1) (n := x.2) hf
          simp at this; omega
      rw [this]
    rw [hrest, this]
    simpa using hi
end
end Go.Proofs.Yticgmchbihakkaa

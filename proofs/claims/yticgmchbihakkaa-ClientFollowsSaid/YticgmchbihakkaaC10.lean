/- The document's All. -/
import Derived.Test.YticgmchbihakkaaC9
set_option linter.unusedVariables false
set_option linter.unusedSimpArgs false
namespace Go.Proofs.Yticgmchbihakkaa
open Go Go.Den
set_option maxRecDepth 100000

/-- A batch, and where it begins. -/
def atR : Rp (Nat × Bat) := ⟨34, 7, fun w I cs x => ∃ rv, cs = vi x.1 :: batV x.2 rv ∧ IsRecs w I rv x.2.recs,
  fun ⟨rv, e, h⟩ k => ⟨rv, e, h.fr (agr_fr k) (apart_not _ _)⟩, fun ⟨rv, e, h⟩ k => ⟨rv, e, h.mono k⟩, fun ⟨rv, e, h⟩ => by subst e; rfl,
  fun ⟨rv, e, h⟩ => by
    subst e
    obtain ⟨A, c, rfl, _⟩ := h.val
    intro u hu; simp [batV] at hu; rcases hu with rfl | rfl | rfl | rfl | rfl | rfl | rfl <;> rfl, by decide⟩

theorem atTy : ElemTy Try.prog 28 atR.ty atR.sz 72 (.agg #[vi 0, vi 0, vi 0, vi 0, vi 0, vi 0, .slice none 0 0]) := ⟨by kernel_rfl, by kernel_rfl, rfl, by decide, by decide⟩

def allGo (rf : Bytes → Option (Bat × Nat)) : Nat → Bytes → Nat → Option Int → List (Nat × Bat)
  | 0, _, _, _ => []
  | k + 1, xs, at0, last => match rf xs with
    | none => []
    | some (b, n) => if (match last with | some l => decide (b.base ≤ l) | none => false) then [] else (at0, b) :: allGo rf k (xs.drop n) (at0 + n) (some b.last)
/-- The document's list of batches. -/
def rallB (p : Bytes) : List (Nat × Bat) := allGo rfD (p.length + 1) p 0 none

theorem rfD_len {xs : Bytes} {b : Bat} {n : Nat} (h : rfD xs = some (b, n)) : 12 ≤ n ∧ n ≤ xs.length := by
  unfold rfD at h
  split at h
  · cases h
  split at h
  · cases h
  cases hr : rfQ (xs.take (12 + (fx xs 8 12).toNat)) with
  | none => rw [hr] at h; cases h
  | some b' =>
    rw [hr] at h
    simp only [Option.map_some, Option.some.injEq, Prod.mk.injEq] at h
    omega

def lastO (l : List (Nat × Bat)) : Option Int := l.getLast?.map fun x => x.2.last

section
variable {Γ : List PP} {L : List HP} {w : World}

set_option maxHeartbeats 400000 in
theorem c15 (h : Sat Γ L w) {v : Value} {p : Bytes} (hv : byt v p ∈ Γ) (hl : p.length ≤ 1000000000) :
    Meets Try.prog 15 [v] w fun v' w' => Sat (atR.sl v' (rallB p) :: Γ) L w' := by
  obtain ⟨A, c, rfl, hc1, hc2⟩ := h.bytVal hv
  simp only [maxLen] at hc2
  refine spec_of Try.func15 Try.ntmps15 Try.results15 rfl (by kernel_rfl) rfl ?_
  have hS := h.ownNil atR
  refine ⟨[2, 3, 4], by kernel_rfl, fun vs w' => ∃ (at0 : Nat) (lv : Value) (acc : List (Nat × Bat)), vs = [.slice none 0 0, lv, vi at0] ∧ at0 ≤ p.length ∧ acc.length ≤ at0 ∧ Sat Γ (atR.own lv acc :: L) w' ∧ rallB p = acc ++ allGo rfD (p.length - at0 + 1) (p.drop at0) at0 (lastO acc),
    fun vs _ => match vs with | [_, _, .int _ a] => (p.length - a).toNat | _ => 0, ⟨0, _, [], rfl, by omega, by simp, hS, rfl⟩, ?_⟩
  rintro _ w1 ⟨at0, lv, acc, rfl, hat, hacc, hS, hr⟩
  obtain ⟨A1, c1, rfl, hc3, hc4, _⟩ := hS.ownVal (k := 0) rfl
  simp only [maxLen] at hc4
  refine ⟨rfl, ⟨Int.natCast_nonneg _, by omega⟩, ?_⟩
  intro A2 hA2
  have hS2 := hS.bytFrom hv at0 hat
  rw [← (show A2 = (if c = at0 then A else A.map (·.add (at0 * 1))) from hA2)] at hS2
  have hlen := @rfD_len (p.drop at0)
  rw [allGo] at hr
  generalize hR : rfD (p.drop at0) = Rr at hr hlen
  refine (c68 hS2 mh (by simp; omega) hR.symm).mono ?_
  rintro _ w2 ⟨us, rfl, hu1, hu2, hS⟩
  obtain ⟨y0, y1, y2, y3, y4, y5, rfl⟩ := six_of hu1
  refine hS.new fun b5 w3 hS => ?_
  have hS : Sat _ (.blk b5 zBat 32 :: atR.own (.slice A1 acc.length c1) acc :: L) w3 := hS
  refine hS.stAll (vs := [y0, y1, y2, y3, y4, y5]) (k := 0) rfl rfl hu2 fun w4 hS => ?_
  have hS : Sat _ (.blk b5 [y0, y1, y2, y3, y4, y5] 32 :: atR.own (.slice A1 acc.length c1) acc :: L) w4 := hS
  have hS := hS.drew
  cases Rr with
  | none =>
    refine ⟨hs [0, 1, 2, 3, 4, 5, 6, 7, 8, 9, 10, 11, 12, 13, 14, 15, 16, 17, 18, 19] .nil, fun u => u = w4.drew, by kernel_rfl, by kernel_rfl, rfl, ?_⟩
    refine ⟨⟨0, 0, none⟩, fun h _ => (by cases h), ⟨0, 0, none⟩, vi 0, fun h _ => (by cases h), ⟨0, 0, none⟩, fun h _ => (by cases h), ⟨0, 0, none⟩, fun h _ => (by cases h), ⟨0, 0, none⟩, fun h _ => (by cases h), ⟨0, 0, none⟩, vi 0, fun h _ => (by cases h), ?_⟩
    refine ⟨fun _ => ?_, fun h => by cases h⟩
    have hS := hS.ownFreeze (R := atR) (k := 1) rfl
    rw [hr, List.append_nil]
    exact (hS.sub (Γ' := _ :: Γ) fun q hq => by
      rcases List.mem_cons.1 hq with rfl | hq
      · exact mh
      · exact mt (mt (mt hq))).drop.drop
  | some x =>
    obtain ⟨bb, n⟩ := x
    obtain ⟨rv, e, hS⟩ := hS.batO (b := bb) mh
    simp only [List.cons.injEq, and_true] at e
    obtain ⟨rfl, rfl, rfl, rfl, rfl, rfl⟩ := e
    obtain ⟨n1, n2⟩ := hlen rfl
    have hdl : (p.drop at0).length = p.length - at0 := by simp
    have hn0 : (decide ((n : Int) = 0)) = false := by simp; omega
    have eacc : IntKind.i64.wrap ((acc.length : Int) - 1) = (acc.length : Int) - 1 := w64 (by omega)
    -- the last one's Last
    obtain ⟨a9, l9, h9a, h9b⟩ : ∃ (a9 : Addr) (l9 : Int), (0 < acc.length → A1 = some a9 ∧ lastO acc = some l9 ∧ w4.drew.cell? (a9.add ((acc.length - 1) * 7 + 2)) = some (vi l9)) ∧ (acc.length = 0 → lastO acc = none) := by
      by_cases h0 : 0 < acc.length
      · obtain ⟨a, x, cs, e1, e2, e3, e4, hS9⟩ := hS.ownAt (R := atR) (k := 1) rfl (acc.length - 1) (by omega)
        obtain ⟨I, _, rv9, e5, _⟩ := hS9.pers mh
        subst e5
        refine ⟨a, x.2.last, fun _ => ⟨e1, ?_, ?_⟩, fun h => by omega⟩
        · unfold lastO
          rw [List.getLast?_eq_getElem?, e2]; rfl
        · have := cellsAt_get e4 (i := 2) (v := vi x.2.last) rfl
          rwa [add_add'] at this
      · refine ⟨⟨0, 0, none⟩, 0, fun h => absurd h h0, fun h => ?_⟩
        have : acc = [] := List.eq_nil_of_length_eq_zero h
        subst this; rfl
    have hpos : (decide ((0 : Int) < acc.length) = true) → 0 < acc.length := fun h => by have := of_decide_eq_true h; omega
    refine ⟨hs [0, 1, 2, 3, 4, 5, 6, 7, 8, 9, 10, 11, 12, 13, 14, 15, 16, 17, 18, 19] .nil, fun u => u = w4.drew, by kernel_rfl, by kernel_rfl, rfl, ?_⟩
    refine ⟨_, fun _ _ => rfl, _, vi bb.base, fun _ _ => ⟨rfl, fun u hu => ?_⟩, a9, fun _ h => ⟨(h9a (hpos h)).1, ?_, ?_⟩, _, fun _ _ => rfl, _, fun _ _ => rfl, _, vi l9, fun _ h => ⟨rfl, fun u hu => ?_⟩, ?_⟩
    · rw [hu]; exact hS.ld (k := 0) (i := 0) rfl rfl
    · show 0 ≤ IntKind.i64.wrap ((acc.length : Int) - 1)
      have := hpos h
      rw [eacc]; omega
    · show IntKind.i64.wrap ((acc.length : Int) - 1) < _
      rw [eacc]; omega
    · rw [hu]
      have h1 := hpos h
      have h2 := (h9a h1).2.2
      have e : ((a9.add ((IntKind.i64.wrap ((acc.length : Int) - 1)).toNat * 7)).add 1).add 1 = a9.add ((acc.length - 1) * 7 + 2) := by
        rw [add_add', add_add', eacc]
        congr 1
        omega
      have h3 : w4.drew.cell? (((a9.add ((IntKind.i64.wrap ((acc.length : Int) - 1)).toNat * 7)).add 1).add 1) = some (vi l9) := by rw [e]; exact h2
      exact h3
    have hcond : (match lastO acc with | some l => decide (bb.base ≤ l) | none => false) = (decide ((0 : Int) < acc.length) && decide (bb.base ≤ l9)) := by
      by_cases h0 : 0 < acc.length
      · rw [(h9a h0).2.1]
        have : decide ((0 : Int) < acc.length) = true := by simp; omega
        rw [this]; rfl
      · rw [h9b (by omega)]
        have : decide ((0 : Int) < acc.length) = false := decide_eq_false (by omega)
        rw [this]; rfl
    dsimp only at hr
    rw [hcond] at hr
    refine ⟨fun hc => ?_, fun hc => ?_⟩
    · have hc : (decide ((n : Int) = 0) || (decide ((0 : Int) < acc.length) && decide (bb.base ≤ l9))) = true := hc
      rw [hn0, Bool.false_or] at hc
      rw [if_pos hc, List.append_nil] at hr
      rw [hr]
      have hS := hS.ownFreeze (R := atR) (k := 1) rfl
      exact (hS.sub (Γ' := _ :: Γ) fun q hq => by
        rcases List.mem_cons.1 hq with rfl | hq
        · exact mh
        · exact mt (mt (mt (mt (mt hq))))).drop.drop
    · have hc : (decide ((n : Int) = 0) || (decide ((0 : Int) < acc.length) && decide (bb.base ≤ l9))) = false := hc
      rw [hn0, Bool.false_or] at hc
      rw [if_neg (by rw [hc]; simp)] at hr
      refine ⟨_, _, ⟨rfl, rfl, hS.ldAll (k := 0) rfl⟩, ?_⟩
      refine hS.new fun b6 w5 hS => ?_
      have hS : Sat _ (.blk b6 [vi at0, vi bb.base, vi bb.last, vi bb.prod, vi bb.epoch, vi bb.seq, y5] 34 :: .blk b5 [vi bb.base, vi bb.last, vi bb.prod, vi bb.epoch, vi bb.seq, y5] 32 :: atR.own (.slice A1 acc.length c1) acc :: L) w5 := hS
      have hS := hS.der (p := atR.el [vi at0, vi bb.base, vi bb.last, vi bb.prod, vi bb.epoch, vi bb.seq, y5] (at0, bb)) (q := recR.sl y5 bb.recs) mh fun I h => ⟨y5, rfl, isRecs_iff.2 h⟩
      refine hS.apOne (R := atR) (k := 2) (j := 0) rfl rfl mh atTy (by omega) fun A' c' w6 hS => ?_
      have ea : IntKind.i64.wrap ((at0 : Int) + n) = ((at0 + n : Nat) : Int) := by rw [w64 (by omega)]; omega
      refine ⟨⟨at0 + n, _, acc ++ [(at0, bb)], ?_, by omega, by simp; omega, (hS.sub fun q hq => mt (mt (mt (mt (mt hq))))).drop.drop, ?_⟩, ?_⟩
      · show [_, _, vi (IntKind.i64.wrap ((at0 : Int) + n))] = _
        rw [ea]
      · rw [hr, List.drop_drop]
        have hk : ∀ (k k' : Nat) (xs : Bytes) (a : Nat) (lo : Option Int), xs.length < k → xs.length < k' → allGo rfD k xs a lo = allGo rfD k' xs a lo := by
          intro k
          induction k with
          | zero => intro k' xs a lo h; omega
          | succ k ih =>
            intro k' xs a lo h h'
            cases k' with
            | zero => omega
            | succ k' =>
              rw [allGo, allGo]
              cases hf : rfD xs with
              | none => rfl
              | some x =>
                have := rfD_len (b := x.1) (n := x.2) hf
                dsimp only
                rw [ih k' _ _ _ (by simp; omega) (by simp; omega)]
        have hla : lastO (acc ++ [(at0, bb)]) = some bb.last := by simp [lastO]
        rw [hla, List.append_assoc, List.singleton_append]
        congr 2
        exact hk _ _ _ _ _ (by simp only [List.length_drop]; omega) (by simp only [List.length_drop]; omega)
      · show ((p.length : Int) - IntKind.i64.wrap ((at0 : Int) + n)).toNat < ((p.length : Int) - at0).toNat
        rw [ea]; omega
end
end Go.Proofs.Yticgmchbihakkaa

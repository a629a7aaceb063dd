/- client.Reader: NewReader, Ask, Offset, Got; Decode. -/
import Derived.Test.YticgmchbihakkaaC13
set_option linter.unusedVariables false
set_option linter.unusedSimpArgs false
namespace Go.Proofs.Yticgmchbihakkaa
open Go Go.Den
set_option maxRecDepth 100000

def decD (p : Bytes) : Option Bat := match firstD p with
  | some (b, n) => if n = p.length then some b else none
  | none => none
def oErr : Option Bat → Int
  | some _ => 0
  | none => 2
abbrev vs0 : Value := .string ⟨#[]⟩
/-- A Reader's cells. -/
abbrev rdC (t : ByteArray) (part off corr : Int) : List Value := [.string t, vi part, vi off, vi corr]
abbrev nilP : Value := .pointer none
abbrev nilS : Value := .slice none 0 0
/-- A Request's cells. -/
abbrev rqC (kind corr : Int) (topic : ByteArray) (part off most : Int) (data : Value) : List Value := [vi kind, vi corr, vs0, .string topic, vi part, vi off, vi 0, vi most, vs0, vs0, vi 0, nilS, data]
abbrev rspC (corr code off last gen : Int) (mem lead : ByteArray) (names nums data : Value) : List Value := [vi corr, vi code, vi off, vi last, vi gen, .string mem, .string lead, names, nums, data]

section
variable {Γ : List PP} {L : List HP} {w : World}

theorem c17 (h : Sat Γ L w) (t : ByteArray) (part off : Int) : Meets Try.prog 17 [.string t, vi part, vi off] w fun v' w' =>
    ((off < 0 ∨ 4611686018427387904 < off) ∧ v' = .tuple #[nilP, vi 1] ∧ Sat Γ L w') ∨ (¬ (off < 0 ∨ 4611686018427387904 < off) ∧ ∃ a, v' = .tuple #[ptr a, vi 0] ∧ Sat Γ (.blk a (rdC t part off 0) 137 :: L) w') := by
  refine spec_of Try.func17 Try.ntmps17 Try.results17 rfl (by kernel_rfl) rfl ?_
  refine ⟨fun hc => ?_, fun hc => ?_⟩
  · have hc : (decide (off < 0) || decide (4611686018427387904 < off)) = true := hc
    exact .inl ⟨by simpa using hc, rfl, h⟩
  · have hc : (decide (off < 0) || decide (4611686018427387904 < off)) = false := hc
    refine h.new fun a w1 hS => ?_
    exact .inr ⟨by simpa using hc, a, rfl, hS⟩

theorem c18 (h : Sat Γ L w) {k a : Nat} {t : ByteArray} {part off corr : Int} (hk : L[k]? = some (.blk a (rdC t part off corr) 137)) (most : Int) :
    Meets Try.prog 18 [ptr a, vi most] w fun v' w' => v' = .agg (rqC 5 (IntKind.i64.wrap (corr + 1)) t part off most nilS).toArray ∧ Sat Γ (L.set k (.blk a (rdC t part off (IntKind.i64.wrap (corr + 1))) 137)) w' := by
  refine spec_of Try.func18 Try.ntmps18 Try.results18 rfl (by kernel_rfl) rfl ?_
  refine h.new fun b4 w1 hS => ?_
  have hS : Sat Γ (.blk b4 (rqC 0 0 ⟨#[]⟩ 0 0 0 nilS) 42 :: L) w1 := hS
  refine ⟨fun h => (by cases h), fun _ => ?_⟩
  have hk1 : ∀ {P : HP}, (P :: L)[k + 1]? = some (.blk a (rdC t part off corr) 137) := fun {P} => hk
  refine ⟨_, rfl, _, rfl, _, _, ⟨rfl, hS.ld (k := k + 1) hk rfl⟩, _, rfl, _, rfl, hS.st (k := k + 1) (i := 3) hk (by simp) rfl fun w2 hS => ?_⟩
  have hk2 : ((HP.blk b4 (rqC 0 0 ⟨#[]⟩ 0 0 0 nilS) 42 :: L).set (k + 1) (.blk a (rdC t part off (IntKind.i64.wrap (corr + 1))) 137))[k + 1]? = some (.blk a (rdC t part off (IntKind.i64.wrap (corr + 1))) 137) := List.getElem?_set_self (List.getElem?_eq_some_iff.1 hk1).1
  have hS := hS.drew
  have hb := hS.blk (k := k + 1) hk2
  refine ⟨hs [0, 1, 2, 3, 4, 5, 6, 7, 8, 9, 10, 11, 12, 13, 14, 15, 16, 17] (.one 18 false .nil), fun u => u = w2.drew, by kernel_rfl, by kernel_rfl, rfl, ?_⟩
  refine ⟨_, rfl, _, rfl, _, vi (IntKind.i64.wrap (corr + 1)), ⟨rfl, fun u hu => by rw [hu]; exact hS.ld (k := k + 1) hk2 rfl⟩, _, rfl, _, rfl, _, .string t, ⟨rfl, fun u hu => by rw [hu]; exact hS.ld (k := k + 1) hk2 rfl⟩, _, rfl, _, rfl, _, vi part, ⟨rfl, fun u hu => by rw [hu]; exact hS.ld (k := k + 1) hk2 rfl⟩, _, rfl, _, rfl, _, vi off, ⟨rfl, fun u hu => by rw [hu]; exact hS.ld (k := k + 1) hk2 rfl⟩, ?_⟩
  refine hS.stAll (vs := rqC 5 (IntKind.i64.wrap (corr + 1)) t part off most nilS) (k := 0) rfl rfl (one_of rfl) fun w3 hS => ?_
  exact ⟨_, ⟨rfl, hS.ldAll (k := 0) rfl⟩, rfl, hS.drop⟩
theorem c18nil (h : Sat Γ L w) (most : Int) : Meets Try.prog 18 [nilP, vi most] w fun v' w' => v' = .agg (rqC 0 0 ⟨#[]⟩ 0 0 0 nilS).toArray ∧ Sat Γ L w' := by
  refine spec_of Try.func18 Try.ntmps18 Try.results18 rfl (by kernel_rfl) rfl ?_
  refine h.new fun b4 w1 hS => ?_
  have hS : Sat Γ (.blk b4 (rqC 0 0 ⟨#[]⟩ 0 0 0 nilS) 42 :: L) w1 := hS
  refine ⟨fun _ => ?_, fun h => (by cases h)⟩
  refine hS.stAll (vs := rqC 0 0 ⟨#[]⟩ 0 0 0 nilS) (k := 0) rfl rfl (one_of rfl) fun w3 hS => ?_
  exact ⟨_, ⟨rfl, hS.ldAll (k := 0) rfl⟩, rfl, hS.drop⟩
theorem c21 (h : Sat Γ L w) {k a : Nat} {t : ByteArray} {part off corr : Int} (hk : L[k]? = some (.blk a (rdC t part off corr) 137)) : Meets Try.prog 21 [ptr a] w fun v' w' => v' = vi off ∧ w' = w := by
  refine spec_of Try.func21 Try.ntmps21 Try.results21 rfl (by kernel_rfl) rfl ?_
  refine ⟨fun h => (by cases h), fun _ => ?_⟩
  exact ⟨_, rfl, _, rfl, _, _, ⟨rfl, h.ld (k := k) hk rfl⟩, rfl, rfl⟩
theorem c21nil (w : World) : Meets Try.prog 21 [nilP] w fun v' w' => v' = vi 0 ∧ w' = w := by
  refine spec_of Try.func21 Try.ntmps21 Try.results21 rfl (by kernel_rfl) rfl ?_
  exact ⟨fun _ => ⟨rfl, rfl⟩, fun h => (by cases h)⟩

theorem c70 (h : Sat Γ L w) {v : Value} {p : Bytes} (hv : byt v p ∈ Γ) (hl : p.length ≤ 100000000000) {R : Option Bat} (hR : R = decD p) :
    Meets Try.prog 70 [v] w fun v' w' => ∃ us : List Value, v' = .tuple #[.agg us.toArray, vi (oErr R)] ∧ us.length = 6 ∧ (∀ u ∈ us, u.oneCell' = true) ∧ (R = none → us = zBat) ∧ Sat (batO us R :: Γ) L w' := by
  obtain ⟨A, c, rfl, hc1, hc2⟩ := h.bytVal hv
  refine spec_of Try.func70 Try.ntmps70 Try.results70 rfl (by kernel_rfl) rfl ?_
  refine h.new fun b2 w1 hS => ?_
  have hS : Sat Γ (.blk b2 zBat 32 :: L) w1 := hS
  unfold decD at hR
  generalize hF : firstD p = F at hR
  refine (c118 hS hv hl hF.symm).mono ?_
  rintro _ w2 ⟨us, rfl, hu1, hu2, hS⟩
  obtain ⟨y0, y1, y2, y3, y4, y5, rfl⟩ := six_of hu1
  refine hS.new fun b4 w3 hS => ?_
  have hS : Sat _ (.blk b4 zBat 32 :: .blk b2 zBat 32 :: L) w3 := hS
  refine hS.stAll (vs := [y0, y1, y2, y3, y4, y5]) (k := 0) rfl rfl hu2 fun w4 hS => ?_
  have hS : Sat _ (.blk b4 [y0, y1, y2, y3, y4, y5] 32 :: .blk b2 zBat 32 :: L) w4 := hS
  have fail : R = none → ∀ {u : World} {Γ' : List PP}, Sat (Γ' ++ Γ) (.blk b4 [y0, y1, y2, y3, y4, y5] 32 :: .blk b2 zBat 32 :: L) u → wrAt u ⟨b2, 0, none⟩ 0 zBat ∧ ∀ u1, u1 = setCells u ⟨b2, 0, none⟩ 0 zBat → ∃ vs : List Value, (vs.length = 6 ∧ cellsAt u1 ⟨b2, 0, none⟩ 0 vs) ∧ ∃ us : List Value, Value.tuple #[.agg vs.toArray, vi 2] = .tuple #[.agg us.toArray, vi (oErr R)] ∧ us.length = 6 ∧ (∀ u ∈ us, u.oneCell' = true) ∧ (R = none → us = zBat) ∧ Sat (batO us R :: Γ) L u1 := by
    intro hn u Γ' hS
    refine hS.stAll (vs := zBat) (k := 1) rfl rfl zBat_one fun u1 hS => ?_
    exact ⟨zBat, ⟨rfl, hS.ldAll (k := 1) rfl⟩, zBat, by rw [hn]; rfl, rfl, zBat_one, fun _ => rfl, (hS.weak (L' := [_, _])).any _ fun I b hb => by rw [hn] at hb; cases hb⟩
  cases F with
  | none =>
    refine ⟨fun _ => ?_, fun h => (by cases h)⟩
    exact fail hR (Γ' := [_]) hS
  | some x =>
    obtain ⟨bb, n⟩ := x
    dsimp only at hR
    refine ⟨fun hc => ?_, fun hc => ?_⟩
    · have hc : (!decide ((n : Int) = p.length)) = true := hc
      rw [if_neg (by simp at hc; omega)] at hR
      exact fail hR (Γ' := [_]) hS
    · have hc : (!decide ((n : Int) = p.length)) = false := hc
      rw [if_pos (by simp at hc; omega)] at hR
      refine ⟨_, _, ⟨rfl, rfl, hS.ldAll (k := 0) rfl⟩, ?_⟩
      refine hS.stAll (vs := [y0, y1, y2, y3, y4, y5]) (k := 1) rfl rfl hu2 fun w5 hS => ?_
      subst hR
      exact ⟨_, ⟨rfl, hS.ldAll (k := 1) rfl⟩, [y0, y1, y2, y3, y4, y5], rfl, rfl, hu2, (by intro h; cases h), hS.drop.drop⟩
theorem c19 (h : Sat Γ L w) {v : Value} {p : Bytes} (hv : byt v p ∈ Γ) (hl : p.length ≤ 100000000000) {R : Option Bat} (hR : R = decD p) :
    Meets Try.prog 19 [v] w fun v' w' => ∃ us : List Value, v' = .tuple #[.agg us.toArray, vi (oErr R)] ∧ us.length = 6 ∧ (∀ u ∈ us, u.oneCell' = true) ∧ (R = none → us = zBat) ∧ Sat (batO us R :: Γ) L w' := by
  obtain ⟨A, c, rfl, hc1, hc2⟩ := h.bytVal hv
  refine spec_of Try.func19 Try.ntmps19 Try.results19 rfl (by kernel_rfl) rfl ?_
  refine h.new fun b2 w1 hS => ?_
  have hS : Sat Γ (.blk b2 zBat 32 :: L) w1 := hS
  unfold decD at hR
  have hlen := @firstD_len p
  generalize hF : firstD p = F at hR hlen
  refine (c68 hS hv hl (R := F) (by rw [rfD_eq]; exact hF.symm)).mono ?_
  rintro _ w2 ⟨us, rfl, hu1, hu2, hS⟩
  obtain ⟨y0, y1, y2, y3, y4, y5, rfl⟩ := six_of hu1
  refine hS.new fun b4 w3 hS => ?_
  have hS : Sat _ (.blk b4 zBat 32 :: .blk b2 zBat 32 :: L) w3 := hS
  refine hS.stAll (vs := [y0, y1, y2, y3, y4, y5]) (k := 0) rfl rfl hu2 fun w4 hS => ?_
  have hS : Sat _ (.blk b4 [y0, y1, y2, y3, y4, y5] 32 :: .blk b2 zBat 32 :: L) w4 := hS
  have fail : R = none → ∀ {u : World} {Γ' : List PP}, Sat (Γ' ++ Γ) (.blk b4 [y0, y1, y2, y3, y4, y5] 32 :: .blk b2 zBat 32 :: L) u → wrAt u ⟨b2, 0, none⟩ 0 zBat ∧ ∀ u1, u1 = setCells u ⟨b2, 0, none⟩ 0 zBat → ∃ vs : List Value, (vs.length = 6 ∧ cellsAt u1 ⟨b2, 0, none⟩ 0 vs) ∧ ∃ us : List Value, Value.tuple #[.agg vs.toArray, vi 2] = .tuple #[.agg us.toArray, vi (oErr R)] ∧ us.length = 6 ∧ (∀ u ∈ us, u.oneCell' = true) ∧ (R = none → us = zBat) ∧ Sat (batO us R :: Γ) L u1 := by
    intro hn u Γ' hS
    refine hS.stAll (vs := zBat) (k := 1) rfl rfl zBat_one fun u1 hS => ?_
    exact ⟨zBat, ⟨rfl, hS.ldAll (k := 1) rfl⟩, zBat, by rw [hn]; rfl, rfl, zBat_one, fun _ => rfl, (hS.weak (L' := [_, _])).any _ fun I b hb => by rw [hn] at hb; cases hb⟩
  cases F with
  | none =>
    refine ⟨fun _ => ?_, fun h => (by cases h)⟩
    exact fail hR (Γ' := [_]) hS
  | some x =>
    obtain ⟨bb, n⟩ := x
    have hn := hlen rfl
    dsimp only at hR
    refine ⟨fun hc => ?_, fun hc => ?_⟩
    · have hc : (decide ((n : Int) = 0) || !decide ((n : Int) = p.length)) = true := hc
      rw [if_neg (by simp at hc; omega)] at hR
      exact fail hR (Γ' := [_]) hS
    · have hc : (decide ((n : Int) = 0) || !decide ((n : Int) = p.length)) = false := hc
      rw [if_pos (by simp at hc; omega)] at hR
      refine ⟨_, _, ⟨rfl, rfl, hS.ldAll (k := 0) rfl⟩, ?_⟩
      refine hS.stAll (vs := [y0, y1, y2, y3, y4, y5]) (k := 1) rfl rfl hu2 fun w5 hS => ?_
      subst hR
      exact ⟨_, ⟨rfl, hS.ldAll (k := 1) rfl⟩, [y0, y1, y2, y3, y4, y5], rfl, rfl, hu2, (by intro h; cases h), hS.drop.drop⟩
end
end Go.Proofs.Yticgmchbihakkaa

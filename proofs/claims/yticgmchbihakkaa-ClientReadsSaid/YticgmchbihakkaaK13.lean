/- ClientReads: its walk. -/
import Derived.Test.YticgmchbihakkaaK12
set_option linter.unusedVariables false
set_option linter.unusedSimpArgs false
namespace Go.Proofs.Yticgmchbihakkaa
open Go Go.Den
set_option maxRecDepth 100000

theorem rec_rises {b : Bat} {last : Int} {r : Rec} (h : chkRec b last r = 0) : last < r.off := by
  unfold chkRec at h
  cases h1 : badRec b last r with
  | true => rw [h1] at h; cases h
  | false =>
    simp only [badRec, Bool.or_eq_false_iff, Bool.not_eq_false', Bool.and_eq_true, decide_eq_true_eq, decide_eq_false_iff_not] at h1
    omega
theorem recs_rise {b : Bat} : ∀ {rs : List Rec} {last : Int}, chkRecs b last rs = 0 → ∀ r ∈ rs, last < r.off
  | [], _, _, r, hr => by cases hr
  | r0 :: rs, last, h, r, hr => by
    simp only [chkRecs] at h
    split at h
    · rename_i h0
      have h1 := rec_rises h0
      rcases List.mem_cons.1 hr with rfl | hr
      · exact h1
      · have := recs_rise h r hr; omega
    · rename_i h0; exact absurd h h0
theorem decD_chk {p : Bytes} {b : Bat} (h : decD p = some b) : chk b = 0 ∧ p.length = (encB b).length ∧ 0 < p.length := by
  unfold decD at h
  cases hF : firstD p with
  | none => rw [hF] at h; cases h
  | some x =>
    obtain ⟨b', n⟩ := x
    rw [hF] at h
    dsimp only at h
    split at h
    · rename_i hn
      cases h
      obtain ⟨h1, h2, h3⟩ := firstD_of hF
      have := firstD_len hF
      exact ⟨h1, by omega, by omega⟩
    · cases h
def recsO : Option Bat → List Rec
  | none => []
  | some b => b.recs
def anyB (off : Int) (rs : List Rec) : Bool := rs.any fun r => decide (r.off < off)
/-- Of records that rise the first one tells. -/
theorem anyB_first {b : Bat} {r : Rec} {rs : List Rec} {off last : Int} (h : chkRecs b last (r :: rs) = 0) : anyB off (r :: rs) = decide (r.off < off) := by
  unfold anyB
  simp only [chkRecs] at h
  split at h
  · have h1 := recs_rise h
    rw [List.any_cons]
    by_cases h2 : r.off < off
    · simp [h2]
    · have : (rs.any fun r => decide (r.off < off)) = false := by
        rw [List.any_eq_false]
        intro x hx
        have := h1 x hx
        simp; omega
      rw [this]; simp
  · rename_i h0; exact absurd h h0

theorem got_bad {p : Bytes} {off : Int} {R : Option Bat} (hR : R = decD p) (h : ((decide ((0 : Int) < p.length) && !decide (oErr R = 0)) || anyB off (recsO R)) = true) : gotD 1 1 0 p off = ([], 2, off) := by
  unfold gotD
  rw [if_neg (by simp), if_neg (by simp), ← hR]
  cases R with
  | none =>
    have h : ((decide ((0 : Int) < p.length) && true) || false) = true := h
    rw [Bool.or_false, Bool.and_true, decide_eq_true_eq] at h
    rw [if_neg (by omega)]
    rfl
  | some b =>
    obtain ⟨h1, h2, h3⟩ := decD_chk hR.symm
    have h4 := (chk_parts h1).2.2
    have h : ((decide ((0 : Int) < p.length) && !decide ((0 : Int) = 0)) || anyB off b.recs) = true := h
    rw [if_neg (by omega)]
    unfold gotB
    cases hb : b.recs with
    | nil => rw [hb] at h; simp [anyB] at h
    | cons r rs =>
      rw [hb] at h h4
      rw [anyB_first h4] at h
      dsimp only
      rw [hb]
      dsimp only
      rw [if_pos (by simpa using h)]
theorem got_ok {p : Bytes} {off : Int} {R : Option Bat} (hR : R = decD p) (h : ((decide ((0 : Int) < p.length) && !decide (oErr R = 0)) || anyB off (recsO R)) = false) : gotD 1 1 0 p off = (recsO R, 0, if (recsO R).length = 0 then off else IntKind.i64.wrap (lastOff (recsO R) + 1)) := by
  unfold gotD
  rw [if_neg (by simp), if_neg (by simp), ← hR]
  cases R with
  | none =>
    have h : ((decide ((0 : Int) < p.length) && true) || false) = false := h
    rw [Bool.or_false, Bool.and_true, decide_eq_false_iff_not] at h
    rw [if_pos (by omega)]
    rfl
  | some b =>
    obtain ⟨h1, h2, h3⟩ := decD_chk hR.symm
    have h4 := (chk_parts h1).2.2
    have h : ((decide ((0 : Int) < p.length) && !decide ((0 : Int) = 0)) || anyB off b.recs) = false := h
    rw [if_neg (by omega)]
    obtain hb | ⟨r, rs, hb⟩ : b.recs = [] ∨ ∃ r rs, b.recs = r :: rs := by
      cases b.recs with
      | nil => exact .inl rfl
      | cons r rs => exact .inr ⟨r, rs, rfl⟩
    · simp [gotB, recsO, hb]
    · rw [hb] at h h4
      rw [anyB_first h4] at h
      have h : ¬ r.off < off := by simpa using h
      simp [gotB, recsO, hb, h]

section
variable {Γ : List PP} {L : List HP} {w : World}
theorem _root_.Go.Den.Sat.batRecs {us : List Value} {R : Option Bat} (h : Sat (batO us R :: Γ) L w) (h6 : us.length = 6) (hz : R = none → us = zBat) :
    ∃ y0 y1 y2 y3 y4 A c, us = [y0, y1, y2, y3, y4, .slice A (recsO R).length c] ∧ (recsO R).length ≤ c ∧ c ≤ maxLen ∧ Sat (recR.sl (.slice A (recsO R).length c) (recsO R) :: Γ) L w := by
  cases R with
  | none => exact ⟨_, _, _, _, _, none, 0, hz rfl, by simp [recsO], by decide, h.tail.slNil recR⟩
  | some b =>
    obtain ⟨rv, e, hS⟩ := h.batO mh
    obtain ⟨A, c, rfl, h1, h2, _⟩ := hS.slVal mh
    exact ⟨_, _, _, _, _, A, c, e, h1, h2, hS.keep.keep⟩

set_option maxHeartbeats 2000000 in
theorem c4 (h : Sat Γ L w) {v : Value} {p : Bytes} (hv : byt v p ∈ Γ) (off corr code most : Int) : Meets Try.prog 4 [vi off, vi corr, vi code, v, vi most] w fun v' w' => v' = .bool true ∧ Sat Γ L w' := by
  obtain ⟨A, c, rfl, hc1, hc2⟩ := h.bytVal hv
  refine spec_join Try.func4 Try.ntmps4 Try.results4 rfl (by kernel_rfl) rfl (J := [199]) ?_
  refine ⟨fun hc => ?_, fun hc => ?_⟩
  · exact (c16 h).mono fun _ _ ⟨e, hS⟩ => ⟨by rw [e]; rfl, hS⟩
  have hc : (decide ((3000 : Int) < p.length) || decide (code < 0) || decide (100 < code)) = false := hc
  have hl : p.length ≤ 3000 := by
    simp only [Bool.or_eq_false_iff, decide_eq_false_iff_not] at hc; omega
  refine (c17 h ⟨#[116]⟩ 3 off).mono ?_
  rintro _ w1 (⟨hb, rfl, hS⟩ | ⟨hb, a, rfl, hS⟩)
  · have hok : (decide (0 ≤ off) && decide (off ≤ 4611686018427387904)) = false := by
      simp only [Bool.and_eq_false_iff, decide_eq_false_iff_not]; omega
    refine ⟨fun hx => ?_, fun _ => ?_⟩
    · exfalso
      have hx : (_ || _) = true := hx
      simp [hok] at hx
    refine ⟨fun _ => ?_, fun hx => ?_⟩
    · exact (c16 hS).mono fun _ _ ⟨e, hS⟩ => ⟨by rw [e]; rfl, hS⟩
    · exfalso
      have hx : (!(decide (0 ≤ off) && decide (off ≤ 4611686018427387904))) = false := hx
      rw [hok] at hx; cases hx
  have hok : (decide (0 ≤ off) && decide (off ≤ 4611686018427387904)) = true := by
    simp only [Bool.and_eq_true, decide_eq_true_eq]; omega
  refine ⟨fun hx => ?_, fun _ => ?_⟩
  · exfalso
    have hx : (_ || _) = true := hx
    simp [hok] at hx
  refine ⟨fun hx => ?_, fun _ => ?_⟩
  · exfalso
    have hx : (!(decide (0 ≤ off) && decide (off ≤ 4611686018427387904))) = true := hx
    rw [hok] at hx; cases hx
  refine (c18 hS (k := 0) rfl most).mono ?_
  rintro _ w2 ⟨rfl, hS⟩
  have hS : Sat Γ (.blk a (rdC ⟨#[116]⟩ 3 off 1) 137 :: L) w2 := hS
  refine hS.new fun b14 w3 hS => ?_
  refine hS.stAll (vs := rqC 5 1 ⟨#[116]⟩ 3 off most nilS) (k := 0) rfl rfl (one_of rfl) fun w4 hS => ?_
  have hS : Sat Γ (.blk b14 (rqC 5 1 ⟨#[116]⟩ 3 off most nilS) 42 :: .blk a (rdC ⟨#[116]⟩ 3 off 1) 137 :: L) w4 := hS
  refine ⟨_, rfl, _, _, ⟨rfl, cell_of (hS.blk (k := 0) rfl) rfl⟩, ?_⟩
  refine ⟨_, fun _ => rfl, _, _, fun _ => ⟨rfl, cell_of (hS.blk (k := 0) rfl) rfl⟩, ?_⟩
  refine ⟨_, fun _ => rfl, _, _, fun _ => ⟨rfl, cell_of (hS.blk (k := 0) rfl) rfl⟩, ?_⟩
  refine ⟨_, fun _ => rfl, _, _, fun _ => ⟨rfl, cell_of (hS.blk (k := 0) rfl) rfl⟩, ?_⟩
  refine ⟨_, fun _ => rfl, _, _, fun _ => ⟨rfl, cell_of (hS.blk (k := 0) rfl) rfl⟩, ?_⟩
  refine ⟨_, fun _ => rfl, _, _, fun _ => ⟨rfl, cell_of (hS.blk (k := 0) rfl) rfl⟩, ?_⟩
  refine ⟨fun hx => ?_, fun _ => ?_⟩
  · exfalso
    have hx : (_ || _) = true := hx
    simp at hx
  obtain ⟨R, hR⟩ : ∃ R, R = decD p := ⟨_, rfl⟩
  refine (c19 hS hv (by omega) hR).mono ?_
  rintro _ w5 ⟨us, rfl, hu1, hu2, hu3, hS⟩
  obtain ⟨y0, y1, y2, y3, y4, A2, c2, rfl, hr1, hr2, hS⟩ := hS.batRecs hu1 hu3
  refine hS.new fun b15 w6 hS => ?_
  have hS : Sat _ (.blk b15 zBat 32 :: .blk b14 (rqC 5 1 ⟨#[116]⟩ 3 off most nilS) 42 :: .blk a (rdC ⟨#[116]⟩ 3 off 1) 137 :: L) w6 := hS
  refine hS.stAll (vs := [y0, y1, y2, y3, y4, .slice A2 (recsO R).length c2]) (k := 0) rfl rfl hu2 fun w7 hS => ?_
  obtain ⟨rs, hrs⟩ : ∃ rs, rs = recsO R := ⟨_, rfl⟩
  rw [← hrs] at hr1 hS ⊢
  simp only [maxLen] at hr2
  have hS : Sat (recR.sl (.slice A2 rs.length c2) rs :: Γ) (.blk b15 [y0, y1, y2, y3, y4, .slice A2 rs.length c2] 32 :: .blk b14 (rqC 5 1 ⟨#[116]⟩ 3 off most nilS) 42 :: .blk a (rdC ⟨#[116]⟩ 3 off 1) 137 :: L) w7 := hS
  obtain ⟨bad0, hbad0⟩ : ∃ bad0, bad0 = (decide ((0 : Int) < p.length) && !decide (oErr R = 0)) := ⟨_, rfl⟩
  refine ⟨[17, 18], by kernel_rfl, fun vs w' => ∃ i : Nat, vs = [.bool (bad0 || anyB off (rs.take i)), vi i] ∧ i ≤ rs.length ∧ Sat (recR.sl (.slice A2 rs.length c2) rs :: Γ) (.blk b15 [y0, y1, y2, y3, y4, .slice A2 rs.length c2] 32 :: .blk b14 (rqC 5 1 ⟨#[116]⟩ 3 off most nilS) 42 :: .blk a (rdC ⟨#[116]⟩ 3 off 1) 137 :: L) w', fun vs _ => match vs with | [_, .int _ i] => (rs.length - i).toNat | _ => 0, ⟨0, ?_, by omega, hS⟩, ?_⟩
  · rw [hbad0]
    show [Value.bool (decide ((0 : Int) < p.length) && !decide (oErr R = 0)), _] = _
    simp [anyB]
  rintro _ w8 ⟨i, rfl, hi, hS⟩
  refine ⟨rfl, ?_⟩
  refine ⟨_, rfl, _, _, ⟨rfl, cell_of (hS.blk (k := 0) rfl) rfl⟩, ?_⟩
  refine ⟨fun hlt => ?_, fun hlt => ?_⟩
  · have hlt : i < rs.length := by
      have h : decide ((i : Int) < rs.length) = true := hlt
      have := of_decide_eq_true h; omega
    have ei : IntKind.i64.wrap ((i : Int) + 1) = ((i + 1 : Nat) : Int) := w64 (by omega)
    obtain ⟨a0, r, kv, vv, rfl, hr, hcs, _⟩ := hS.recAt mh i hlt
    refine ⟨_, fun _ => rfl, _, _, fun _ => ⟨rfl, cell_of (hS.blk (k := 0) rfl) rfl⟩, a0, fun _ => ⟨rfl, by omega, by omega⟩, _, fun _ => rfl, _, vi r.off, fun _ => ⟨rfl, cellsAt_get hcs (i := 0) rfl⟩, ?_⟩
    refine ⟨⟨i + 1, ?_, hlt, hS⟩, ?_⟩
    · show [Value.bool ((bad0 || anyB off (rs.take i)) || decide (r.off < off)), vi (IntKind.i64.wrap ((i : Int) + 1))] = _
      rw [ei, List.take_add_one, hr]
      simp [anyB, Bool.or_assoc]
    · show (rs.length - IntKind.i64.wrap ((i : Int) + 1)).toNat < (rs.length - (i : Int)).toNat
      rw [ei]; omega
  have hlt : ¬ i < rs.length := by
    have h : decide ((i : Int) < rs.length) = false := hlt
    have := of_decide_eq_false h; omega
  rw [List.take_of_length_le (by omega)]
  obtain ⟨G, hG⟩ : ∃ G, G = gotD 1 corr code p off := ⟨_, rfl⟩
  refine (c20 hS (k := 2) rfl (xo := 0) (xl := 0) (xg := 0) (mem := ⟨#[]⟩) (lead := ⟨#[]⟩) (names := nilS) (nums := nilS) rfl rfl (mt hv) (by omega) hG).mono ?_
  rintro _ w9 ⟨rv, rfl, hS⟩
  obtain ⟨g1, g2, g3⟩ := G
  obtain ⟨A3, c3, rfl, _⟩ := hS.slVal mh
  have hS : Sat (recR.sl (.slice A3 g1.length c3) g1 :: recR.sl (.slice A2 rs.length c2) rs :: Γ) (.blk b15 [y0, y1, y2, y3, y4, .slice A2 rs.length c2] 32 :: .blk b14 (rqC 5 1 ⟨#[116]⟩ 3 off most nilS) 42 :: .blk a (rdC ⟨#[116]⟩ 3 g3 1) 137 :: L) w9 := hS
  refine ⟨fun hx => ?_, fun hx => ?_⟩
  · have hx : (!decide (corr = 1)) = true := hx
    have hx : corr ≠ 1 := by simpa using hx
    have e : (g1, g2, g3) = (([] : List Rec), (14 : Int), off) := by rw [hG, gotD, if_pos (Or.inr hx)]
    simp only [Prod.mk.injEq] at e
    obtain ⟨rfl, rfl, rfl⟩ := e
    refine Or.inr ⟨_, fun _ => (c21 hS (k := 2) rfl).mono fun _ _ h => h, ?_⟩
    refine Or.inl ⟨fun _ => (c16 hS).mono ?_, fun h => absurd ⟨by simp, trivial⟩ h⟩
    rintro _ w10 ⟨rfl, hS⟩
    exact ⟨by show Value.bool (_ && _) = _; simp, hS.weak (Γ' := [_, _]) (L' := [_, _, _])⟩
  have hx : (!decide (corr = 1)) = false := hx
  have hcorr : corr = 1 := by simpa using hx
  subst hcorr
  refine ⟨fun hx => ?_, fun hx => ?_⟩
  · have hx : (!decide (code = 0)) = true := hx
    have hx : code ≠ 0 := by simpa using hx
    have e : (g1, g2, g3) = (([] : List Rec), code, off) := by rw [hG, gotD, if_neg (by simp), if_pos hx]
    simp only [Prod.mk.injEq] at e
    obtain ⟨rfl, rfl, rfl⟩ := e
    refine Or.inr ⟨_, fun _ => (c21 hS (k := 2) rfl).mono fun _ _ h => h, ?_⟩
    refine Or.inl ⟨fun _ => (c16 hS).mono ?_, fun h => absurd ⟨by simp, trivial⟩ h⟩
    rintro _ w10 ⟨rfl, hS⟩
    exact ⟨by show Value.bool (_ && _) = _; simp, hS.weak (Γ' := [_, _]) (L' := [_, _, _])⟩
  have hx : (!decide (code = 0)) = false := hx
  have hcode : code = 0 := by simpa using hx
  subst hcode
  refine ⟨fun hx => ?_, fun hx => ?_⟩
  · have hx : (bad0 || anyB off rs) = true := hx
    rw [hbad0, hrs] at hx
    have e := hG.trans (got_bad hR hx)
    simp only [Prod.mk.injEq] at e
    obtain ⟨rfl, rfl, rfl⟩ := e
    refine Or.inr ⟨_, fun _ => (c21 hS (k := 2) rfl).mono fun _ _ h => h, ?_⟩
    refine Or.inl ⟨fun _ => (c16 hS).mono ?_, fun h => absurd ⟨by simp, trivial⟩ h⟩
    rintro _ w10 ⟨rfl, hS⟩
    exact ⟨by show Value.bool (_ && _) = _; simp, hS.weak (Γ' := [_, _]) (L' := [_, _, _])⟩
  have hx : (bad0 || anyB off rs) = false := hx
  rw [hbad0, hrs] at hx
  have e := hG.trans (got_ok hR hx)
  rw [← hrs] at e
  simp only [Prod.mk.injEq] at e
  obtain ⟨rfl, rfl, hg3⟩ := e
  refine ⟨_, rfl, _, _, ⟨rfl, cell_of (hS.blk (k := 0) rfl) rfl⟩, ?_⟩
  refine ⟨[21], fun vs u => vs = [vi g3] ∧ Sat (recR.sl (.slice A3 g1.length c3) g1 :: recR.sl (.slice A2 g1.length c2) g1 :: Γ) (.blk b15 [y0, y1, y2, y3, y4, .slice A2 g1.length c2] 32 :: .blk b14 (rqC 5 1 ⟨#[116]⟩ 3 off most nilS) 42 :: .blk a (rdC ⟨#[116]⟩ 3 g3 1) 137 :: L) u, by kernel_rfl, fun hx => ?_, fun hx => ?_, ?_⟩
  · have hx : decide ((0 : Int) < g1.length) = true := hx
    have hpos : 0 < g1.length := by have := of_decide_eq_true hx; omega
    have em : IntKind.i64.wrap ((g1.length : Int) - 1) = (g1.length : Int) - 1 := w64 (by omega)
    obtain ⟨a0, r, kv, vv, e1, hr, hcs, _⟩ := hS.recAt (mt mh) (g1.length - 1) (by omega)
    subst e1
    refine ⟨_, rfl, _, _, ⟨rfl, cell_of (hS.blk (k := 0) rfl) rfl⟩, ?_⟩
    refine ⟨_, rfl, _, _, ⟨rfl, cell_of (hS.blk (k := 0) rfl) rfl⟩, a0, ⟨rfl, ?_, ?_⟩, _, rfl, _, vi r.off, ⟨rfl, ?_⟩, ?_⟩
    · show 0 ≤ IntKind.i64.wrap ((g1.length : Int) - 1)
      rw [em]; omega
    · show IntKind.i64.wrap ((g1.length : Int) - 1) < _
      rw [em]; omega
    · show w9.cell? ((a0.add ((IntKind.i64.wrap ((g1.length : Int) - 1)).toNat * 6)).add 0) = _
      rw [em, show ((g1.length : Int) - 1).toNat = g1.length - 1 by omega]
      exact cellsAt_get hcs (i := 0) rfl
    · refine ⟨?_, hS⟩
      rw [hg3, if_neg (by omega)]
      have : lastOff g1 = r.off := by
        unfold lastOff
        rw [List.getLast?_eq_getElem?, hr]
      rw [this]
  · have hx : decide ((0 : Int) < g1.length) = false := hx
    have h0 : g1.length = 0 := by have := of_decide_eq_false hx; omega
    refine ⟨?_, hS⟩
    rw [hg3, if_pos h0]
  rintro _ w10 ⟨rfl, hS⟩
  refine ⟨rfl, ?_⟩
  refine ⟨_, fun _ => rfl, _, _, fun _ => ⟨rfl, cell_of (hS.blk (k := 0) rfl) rfl⟩, ?_⟩
  refine Or.inl ⟨fun _ => (c22 hS mh (mt mh)).mono ?_, fun h => absurd ⟨rfl, trivial⟩ h⟩
  rintro _ w11 ⟨r, rfl, hr, hS⟩
  obtain rfl : r = true := hr.2 rfl
  refine Or.inr ⟨_, fun _ => (c21 hS (k := 2) rfl).mono fun _ _ h => h, ?_⟩
  refine Or.inl ⟨fun _ => (c18 hS (k := 2) rfl 1).mono ?_, fun h => absurd ⟨by simp, trivial⟩ h⟩
  rintro _ w12 ⟨rfl, hS⟩
  refine Or.inl ⟨fun _ => ?_, fun h => absurd ⟨by simp, trivial⟩ h⟩
  refine ⟨vi 2, w12, by kernel_rfl, ?_⟩
  refine Or.inl ⟨fun _ => (c16 hS).mono ?_, fun h => absurd ⟨by simp, trivial⟩ h⟩
  rintro _ w13 ⟨rfl, hS⟩
  exact ⟨by show Value.bool (_ && _) = _; simp, hS.weak (Γ' := [_, _]) (L' := [_, _, _])⟩
end
end Go.Proofs.Yticgmchbihakkaa

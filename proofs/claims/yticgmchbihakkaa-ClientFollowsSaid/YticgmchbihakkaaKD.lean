/- What 'awake' of chapter 24 asks. ClientNothing: its walk. ClientReads: its walk. ClientFollows: its walk. -/
import Derived.Test.YticgmchbihakkaaKC
set_option linter.unusedVariables false
set_option linter.unusedSimpArgs false
namespace Go.Proofs.Yticgmchbihakkaa
open Go Go.Den
set_option maxRecDepth 100000
abbrev awB : Bat := ⟨0, 1, 1, 0, 0, renG 0 (recsV 2 1)⟩
theorem awB_ok : chk awB = 0 := by kernel_rfl
section
variable {Γ : List PP} {L : List HP} {w : World}
set_option maxHeartbeats 1000000 in
theorem c16 (h : Sat Γ L w) : Meets Try.prog 16 [] w fun v' w' => v' = .bool true ∧ Sat Γ L w' := by
  refine spec_of Try.func16 Try.ntmps16 Try.results16 rfl (by kernel_rfl) rfl ?_
  refine (c69 h).mono ?_
  rintro _ w1 ⟨a, m, rfl, hS⟩
  refine (c17 hS ⟨#[116]⟩ 0 5).mono ?_
  rintro _ w2 (⟨hc, _⟩ | ⟨_, r, rfl, hS⟩)
  · omega
  refine (c69bad _).mono ?_
  rintro _ w3 ⟨rfl, rfl⟩
  refine ⟨fun h => (by cases h), fun _ => ?_⟩
  refine (c26 hS 2 (by decide) 1).mono ?_
  rintro rv w4 hS
  have hl2 : (recsV 2 1).length = 2 := rfl
  refine (c25 hS (k := 1) (j := 2) rfl rfl ⟨#[116]⟩ 0 mh (by rw [hl2]; decide) (seq := 0) rfl (b := awB) rfl awB_ok).mono ?_
  rintro _ w5 ⟨q, u1, u2, rfl, hS⟩
  obtain ⟨U1, d1, rfl, _⟩ := hS.bytVal (mt mh)
  obtain ⟨U2, d2, rfl, _⟩ := hS.bytVal mh
  have hS := hS.tail.tail.tail
  have hS : Sat Γ (.blk q (rqC 4 1 ⟨#[116]⟩ 0 0 0 (.slice U2 (encB awB).length d2)) 42 :: .blk r (rdC ⟨#[116]⟩ 0 5 0) 137 :: .blk a (pdC 1 0 1 m (ptr q) 2) 146 :: .obj m (slotO [] 0) :: L) w5 := hS
  refine hS.new fun b7 w6 hS => ?_
  refine hS.stAll (vs := rqC 4 1 ⟨#[116]⟩ 0 0 0 (.slice U1 (encB awB).length d1)) (k := 0) rfl rfl (one_of rfl) fun w7 hS => ?_
  have hS : Sat Γ (.blk b7 (rqC 4 1 ⟨#[116]⟩ 0 0 0 (.slice U1 (encB awB).length d1)) 42 :: .blk q (rqC 4 1 ⟨#[116]⟩ 0 0 0 (.slice U2 (encB awB).length d2)) 42 :: .blk r (rdC ⟨#[116]⟩ 0 5 0) 137 :: .blk a (pdC 1 0 1 m (ptr q) 2) 146 :: .obj m (slotO [] 0) :: L) w7 := hS
  refine (c26 hS 1 (by decide) 1).mono ?_
  rintro rv2 w8 hS
  refine (c25wait hS (k := 3) rfl ⟨#[116]⟩ 0 rv2).mono ?_
  rintro _ w9 ⟨rfl, hS⟩
  refine hS.tail.new fun b9 w10 hS => ?_
  refine hS.stAll (vs := rq0) (k := 0) rfl rfl (one_of rfl) fun w11 hS => ?_
  have hS := hS.drop
  have hS : Sat Γ (.blk b7 (rqC 4 1 ⟨#[116]⟩ 0 0 0 (.slice U1 (encB awB).length d1)) 42 :: .blk q (rqC 4 1 ⟨#[116]⟩ 0 0 0 (.slice U2 (encB awB).length d2)) 42 :: .blk r (rdC ⟨#[116]⟩ 0 5 0) 137 :: .blk a (pdC 1 0 1 m (ptr q) 2) 146 :: .obj m (slotO [] 0) :: L) w11 := hS
  refine (c28 hS (k := 3) (j := 4) (l := 1) rfl rfl rfl (by decide) (xo := 9) (xl := 0) (xg := 0) (mem := ⟨#[]⟩) (lead := ⟨#[]⟩) (names := nilS) (nums := nilS) (xd := nilS) rfl rfl rfl).mono ?_
  rintro _ w12 ⟨rfl, hS⟩
  have hS : Sat Γ (.blk b7 (rqC 4 1 ⟨#[116]⟩ 0 0 0 (.slice U1 (encB awB).length d1)) 42 :: .blk q (rqC 4 1 ⟨#[116]⟩ 0 0 0 (.slice U2 (encB awB).length d2)) 42 :: .blk r (rdC ⟨#[116]⟩ 0 5 0) 137 :: .blk a (pdC 1 0 1 m nilP 2) 146 :: .obj m (slotO [((⟨#[116]⟩, 0), vi 2, 0)] 1) :: L) w12 := hS
  refine (c18 hS (k := 2) rfl 100).mono ?_
  rintro _ w13 ⟨rfl, hS⟩
  refine hS.new fun b13 w14 hS => ?_
  refine hS.stAll (vs := rqC 5 1 ⟨#[116]⟩ 0 5 100 nilS) (k := 0) rfl rfl (one_of rfl) fun w15 hS => ?_
  have hS : Sat Γ (.blk b13 (rqC 5 1 ⟨#[116]⟩ 0 5 100 nilS) 42 :: .blk b7 (rqC 4 1 ⟨#[116]⟩ 0 0 0 (.slice U1 (encB awB).length d1)) 42 :: .blk q (rqC 4 1 ⟨#[116]⟩ 0 0 0 (.slice U2 (encB awB).length d2)) 42 :: .blk r (rdC ⟨#[116]⟩ 0 5 1) 137 :: .blk a (pdC 1 0 1 m nilP 2) 146 :: .obj m (slotO [((⟨#[116]⟩, 0), vi 2, 0)] 1) :: L) w15 := hS
  refine ⟨_, fun _ => rfl, _, _, fun _ => ⟨rfl, cell_of (hS.blk (k := 1) rfl) rfl⟩, ?_⟩
  refine ⟨_, fun _ => rfl, _, _, fun _ => ⟨rfl, cell_of (hS.blk (k := 1) rfl) rfl⟩, ?_⟩
  refine Or.inr ?_
  refine ⟨vi 2, fun _ => (c29 hS (k := 4) (j := 5) rfl rfl ⟨#[116]⟩ 0).mono ?_, ?_⟩
  · rintro v' w' ⟨rfl, rfl⟩
    exact ⟨rfl, rfl⟩
  refine ⟨_, fun _ => rfl, _, _, fun _ => ⟨rfl, cell_of (hS.blk (k := 0) rfl) rfl⟩, ?_⟩
  refine ⟨_, fun _ => rfl, _, _, fun _ => ⟨rfl, cell_of (hS.blk (k := 0) rfl) rfl⟩, ?_⟩
  refine ⟨rfl, ?_⟩
  exact hS.drop.drop.drop.drop.drop.drop
end
end Go.Proofs.Yticgmchbihakkaa

namespace Go.Proofs.Yticgmchbihakkaa
open Go Go.Den
set_option maxRecDepth 100000
section
variable {Γ : List PP} {L : List HP} {w : World}
theorem c20nil (h : Sat Γ L w) {xc code xo xl xg : Int} {mem lead : ByteArray} {names nums dv : Value} :
    Meets Try.prog 20 [nilP, .agg (rspC xc code xo xl xg mem lead names nums dv).toArray] w fun v' w' => v' = .tuple #[nilS, vi 1] ∧ Sat Γ L w' := by
  refine spec_of Try.func20 Try.ntmps20 Try.results20 rfl (by kernel_rfl) rfl ?_
  refine h.new fun b3 w1 hS => ?_
  refine ⟨fun _ => ?_, fun h => (by cases h)⟩
  exact ⟨rfl, hS.drop⟩
set_option maxHeartbeats 1000000 in
theorem c6 (h : Sat Γ L w) (n : Int) : Meets Try.prog 6 [vi n] w fun v' w' => v' = .bool true ∧ Sat Γ L w' := by
  refine spec_of Try.func6 Try.ntmps6 Try.results6 rfl (by kernel_rfl) rfl ?_
  refine (c26 h 1 (by decide) n).mono ?_
  rintro rv w1 hS
  refine (c25nil hS ⟨#[116]⟩ 0 rv).mono ?_
  rintro _ w2 ⟨rfl, hS⟩
  refine hS.tail.new fun b5 w3 hS => ?_
  refine hS.stAll (vs := rq0) (k := 0) rfl rfl (one_of rfl) fun w4 hS => ?_
  have hS := hS.drop
  refine (c27nil hS).mono ?_
  rintro _ w5 ⟨rfl, hS⟩
  refine hS.new fun b7 w6 hS => ?_
  refine hS.stAll (vs := rq0) (k := 0) rfl rfl (one_of rfl) fun w7 hS => ?_
  have hS := hS.drop
  refine (c28nil hS (xc := 0) (code := 0) (xo := 0) (xl := 0) (xg := 0) (mem := ⟨#[]⟩) (lead := ⟨#[]⟩) (names := nilS) (nums := nilS) (dv := nilS) rfl rfl rfl).mono ?_
  rintro _ w8 ⟨rfl, hS⟩
  refine (c20nil hS (xc := 0) (code := 0) (xo := 0) (xl := 0) (xg := 0) (mem := ⟨#[]⟩) (lead := ⟨#[]⟩) (names := nilS) (nums := nilS) (dv := nilS)).mono ?_
  rintro _ w9 ⟨rfl, hS⟩
  refine Or.inr ?_
  refine ⟨_, fun _ => (c29nil _ ⟨#[116]⟩ 0).mono fun _ _ h => h, ?_⟩
  refine Or.inr ?_
  refine ⟨_, fun _ => (c21nil _).mono fun _ _ h => h, ?_⟩
  refine Or.inl ?_
  refine ⟨fun _ => (c18nil hS 1).mono ?_, fun h => absurd ⟨rfl, trivial⟩ h⟩
  rintro _ w10 ⟨rfl, hS⟩
  refine Or.inl ?_
  refine ⟨fun _ => ?_, fun h => absurd ⟨rfl, trivial⟩ h⟩
  refine ⟨vi 0, w10, by kernel_rfl, ?_⟩
  refine Or.inl ?_
  refine ⟨fun _ => (c16 hS).mono ?_, fun h => absurd ⟨rfl, trivial⟩ h⟩
  rintro _ w11 ⟨rfl, hS⟩
  exact ⟨rfl, hS⟩
end
end Go.Proofs.Yticgmchbihakkaa

namespace Go.Proofs.Yticgmchbihakkaa
open Go Go.Den
set_option maxRecDepth 100000

theorem rec_rises {b : Bat} {last : Int} {r : Rec} (h : chkRec b last r = 0) : last < r.off := by
  unfold chkRec at h
  cases h1 : badRec b last r with
  | true => rw [h1] at h; cases h
  | false =>
    simp only [badRec, Bool.or_eq_false_iff, Bool.not_eq_false', Bool.and_eq_true, decide_eq_true_eq, decide_eq_false_iff_not] at h1
    omega
theorem recs_rise {b : Bat} : ∀ {rs : List Rec} {last : Int}, chkRecs b last rs = 0 → ∀ r ∈ rs, last < r.off
  | [], _, _, r, hr => by cases hr
  | r0 :: rs, last, h, r, hr => by
    simp only [chkRecs] at h
    split at h
    · rename_i h0
      have h1 := rec_rises h0
      rcases List.mem_cons.1 hr with rfl | hr
      · exact h1
      · have := recs_rise h r hr; omega
    · rename_i h0; exact absurd h h0
theorem decD_chk {p : Bytes} {b : Bat} (h : decD p = some b) : chk b = 0 ∧ p.length = (encB b).length ∧ 0 < p.length := by
  unfold decD at h
  cases hF : firstD p with
  | none => rw [hF] at h; cases h
  | some x =>
    obtain ⟨b', n⟩ := x
    rw [hF] at h
    dsimp only at h
    split at h
    · rename_i hn
      cases h
      obtain ⟨h1, h2, h3⟩ := firstD_of hF
      have := firstD_len hF
      exact ⟨h1, by omega, by omega⟩
    · cases h
def recsO : Option Bat → List Rec
  | none => []
  | some b => b.recs
def anyB (off : Int) (rs : List Rec) : Bool := rs.any fun r => decide (r.off < off)
/-- Of records that rise the first one tells. -/
theorem anyB_first {b : Bat} {r : Rec} {rs : List Rec} {off last : Int} (h : chkRecs b last (r :: rs) = 0) : anyB off (r :: rs) = decide (r.off < off) := by
  unfold anyB
  simp only [chkRecs] at h
  split at h
  · have h1 := recs_rise h
    rw [List.any_cons]
    by_cases h2 : r.off < off
    · simp [h2]
    · have : (rs.any fun r => decide (r.off < off)) = false := by
        rw [List.any_eq_false]
        intro x hx
        have := h1 x hx
        simp; omega
      rw [this]; simp
  · rename_i h0; exact absurd h h0

theorem got_bad {p : Bytes} {off : Int} {R : Option Bat} (hR : R = decD p) (h : ((decide ((0 : Int) < p.length) && !decide (oErr R = 0)) || anyB off (recsO R)) = true) : gotD 1 1 0 p off = ([], 2, off) := by
  unfold gotD
  rw [if_neg (by simp), if_neg (by simp), ← hR]
  cases R with
  | none =>
    have h : ((decide ((0 : Int) < p.length) && true) || false) = true := h
    rw [Bool.or_false, Bool.and_true, decide_eq_true_eq] at h
    rw [if_neg (by omega)]
    rfl
  | some b =>
    obtain ⟨h1, h2, h3⟩ := decD_chk hR.symm
    have h4 := (chk_parts h1).2.2
    have h : ((decide ((0 : Int) < p.length) && !decide ((0 : Int) = 0)) || anyB off b.recs) = true := h
    rw [if_neg (by omega)]
    unfold gotB
    cases hb : b.recs with
    | nil => rw [hb] at h; simp [anyB] at h
    | cons r rs =>
      rw [hb] at h h4
      rw [anyB_first h4] at h
      dsimp only
      rw [hb]
      dsimp only
      rw [if_pos (by simpa using h)]
theorem got_ok {p : Bytes} {off : Int} {R : Option Bat} (hR : R = decD p) (h : ((decide ((0 : Int) < p.length) && !decide (oErr R = 0)) || anyB off (recsO R)) = false) : gotD 1 1 0 p off = (recsO R, 0, if (recsO R).length = 0 then off else IntKind.i64.wrap (lastOff (recsO R) + 1)) := by
  unfold gotD
  rw [if_neg (by simp), if_neg (by simp), ← hR]
  cases R with
  | none =>
    have h : ((decide ((0 : Int) < p.length) && true) || false) = false := h
    rw [Bool.or_false, Bool.and_true, decide_eq_false_iff_not] at h
    rw [if_pos (by omega)]
    rfl
  | some b =>
    obtain ⟨h1, h2, h3⟩ := decD_chk hR.symm
    have h4 := (chk_parts h1).2.2
    have h : ((decide ((0 : Int) < p.length) && !decide ((0 : Int) = 0)) || anyB off b.recs) = false := h
    rw [if_neg (by omega)]
    obtain hb | ⟨r, rs, hb⟩ : b.recs = [] ∨ ∃ r rs, b.recs = r :: rs := by
      cases b.recs with
      | nil => exact .inl rfl
      | cons r rs => exact .inr ⟨r, rs, rfl⟩
    · simp [gotB, recsO, hb]
    · rw [hb] at h h4
      rw [anyB_first h4] at h
      have h : ¬ r.off < off := by simpa using h
      simp [gotB, recsO, hb, h]

section
variable {Γ : List PP} {L : List HP} {w : World}
theorem _root_.Go.Den.Sat.batRecs {us : List Value} {R : Option Bat} (h : Sat (batO us R :: Γ) L w) (h6 : us.length = 6) (hz : R = none → us = zBat) :
    ∃ y0 y1 y2 y3 y4 A c, us = [y0, y1, y2, y3, y4, .slice A (recsO R).length c] ∧ (recsO R).length ≤ c ∧ c ≤ maxLen ∧ Sat (recR.sl (.slice A (recsO R).length c) (recsO R) :: Γ) L w := by
  cases R with
  | none => exact ⟨_, _, _, _, _, none, 0, hz rfl, by simp [recsO], by decide, h.tail.slNil recR⟩
  | some b =>
    obtain ⟨rv, e, hS⟩ := h.batO mh
    obtain ⟨A, c, rfl, h1, h2, _⟩ := hS.slVal mh
    exact ⟨_, _, _, _, _, A, c, e, h1, h2, hS.keep.keep⟩

set_option maxHeartbeats 2000000 in
theorem c4 (h : Sat Γ L w) {v : Value} {p : Bytes} (hv : byt v p ∈ Γ) (off corr code most : Int) : Meets Try.prog 4 [vi off, vi corr, vi code, v, vi most] w fun v' w' => v' = .bool true ∧ Sat Γ L w' := by
  obtain ⟨A, c, rfl, hc1, hc2⟩ := h.bytVal hv
  refine spec_join Try.func4 Try.ntmps4 Try.results4 rfl (by kernel_rfl) rfl (J := [199]) ?_
  refine ⟨fun hc => ?_, fun hc => ?_⟩
  · exact (c16 h).mono fun _ _ ⟨e, hS⟩ => ⟨by rw [e]; rfl, hS⟩
  have hc : (decide ((3000 : Int) < p.length) || decide (code < 0) || decide (100 < code)) = false := hc
  have hl : p.length ≤ 3000 := by
    simp only [Bool.or_eq_false_iff, decide_eq_false_iff_not] at hc; omega
  refine (c17 h ⟨#[116]⟩ 3 off).mono ?_
  rintro _ w1 (⟨hb, rfl, hS⟩ | ⟨hb, a, rfl, hS⟩)
  · have hok : (decide (0 ≤ off) && decide (off ≤ 4611686018427387904)) = false := by
      simp only [Bool.and_eq_false_iff, decide_eq_false_iff_not]; omega
    refine ⟨fun hx => ?_, fun _ => ?_⟩
    · exfalso
      have hx : (_ || _) = true := hx
      simp [hok] at hx
    refine ⟨fun _ => ?_, fun hx => ?_⟩
    · exact (c16 hS).mono fun _ _ ⟨e, hS⟩ => ⟨by rw [e]; rfl, hS⟩
    · exfalso
      have hx : (!(decide (0 ≤ off) && decide (off ≤ 4611686018427387904))) = false := hx
      rw [hok] at hx; cases hx
  have hok : (decide (0 ≤ off) && decide (off ≤ 4611686018427387904)) = true := by
    simp only [Bool.and_eq_true, decide_eq_true_eq]; omega
  refine ⟨fun hx => ?_, fun _ => ?_⟩
  · exfalso
    have hx : (_ || _) = true := hx
    simp [hok] at hx
  refine ⟨fun hx => ?_, fun _ => ?_⟩
  · exfalso
    have hx : (!(decide (0 ≤ off) && decide (off ≤ 4611686018427387904))) = true := hx
    rw [hok] at hx; cases hx
  refine (c18 hS (k := 0) rfl most).mono ?_
  rintro _ w2 ⟨rfl, hS⟩
  have hS : Sat Γ (.blk a (rdC ⟨#[116]⟩ 3 off 1) 137 :: L) w2 := hS
  refine hS.new fun b14 w3 hS => ?_
  refine hS.stAll (vs := rqC 5 1 ⟨#[116]⟩ 3 off most nilS) (k := 0) rfl rfl (one_of rfl) fun w4 hS => ?_
  have hS : Sat Γ (.blk b14 (rqC 5 1 ⟨#[116]⟩ 3 off most nilS) 42 :: .blk a (rdC ⟨#[116]⟩ 3 off 1) 137 :: L) w4 := hS
  refine ⟨_, rfl, _, _, ⟨rfl, cell_of (hS.blk (k := 0) rfl) rfl⟩, ?_⟩
  refine ⟨_, fun _ => rfl, _, _, fun _ => ⟨rfl, cell_of (hS.blk (k := 0) rfl) rfl⟩, ?_⟩
  refine ⟨_, fun _ => rfl, _, _, fun _ => ⟨rfl, cell_of (hS.blk (k := 0) rfl) rfl⟩, ?_⟩
  refine ⟨_, fun _ => rfl, _, _, fun _ => ⟨rfl, cell_of (hS.blk (k := 0) rfl) rfl⟩, ?_⟩
  refine ⟨_, fun _ => rfl, _, _, fun _ => ⟨rfl, cell_of (hS.blk (k := 0) rfl) rfl⟩, ?_⟩
  refine ⟨_, fun _ => rfl, _, _, fun _ => ⟨rfl, cell_of (hS.blk (k := 0) rfl) rfl⟩, ?_⟩
  refine ⟨fun hx => ?_, fun _ => ?_⟩
  · exfalso
    have hx : (_ || _) = true := hx
    simp at hx
  obtain ⟨R, hR⟩ : ∃ R, R = decD p := ⟨_, rfl⟩
  refine (c19 hS hv (by omega) hR).mono ?_
  rintro _ w5 ⟨us, rfl, hu1, hu2, hu3, hS⟩
  obtain ⟨y0, y1, y2, y3, y4, A2, c2, rfl, hr1, hr2, hS⟩ := hS.batRecs hu1 hu3
  refine hS.new fun b15 w6 hS => ?_
  have hS : Sat _ (.blk b15 zBat 32 :: .blk b14 (rqC 5 1 ⟨#[116]⟩ 3 off most nilS) 42 :: .blk a (rdC ⟨#[116]⟩ 3 off 1) 137 :: L) w6 := hS
  refine hS.stAll (vs := [y0, y1, y2, y3, y4, .slice A2 (recsO R).length c2]) (k := 0) rfl rfl hu2 fun w7 hS => ?_
  obtain ⟨rs, hrs⟩ : ∃ rs, rs = recsO R := ⟨_, rfl⟩
  rw [← hrs] at hr1 hS ⊢
  simp only [maxLen] at hr2
  have hS : Sat (recR.sl (.slice A2 rs.length c2) rs :: Γ) (.blk b15 [y0, y1, y2, y3, y4, .slice A2 rs.length c2] 32 :: .blk b14 (rqC 5 1 ⟨#[116]⟩ 3 off most nilS) 42 :: .blk a (rdC ⟨#[116]⟩ 3 off 1) 137 :: L) w7 := hS
  obtain ⟨bad0, hbad0⟩ : ∃ bad0, bad0 = (decide ((0 : Int) < p.length) && !decide (oErr R = 0)) := ⟨_, rfl⟩
  refine ⟨[17, 18], by kernel_rfl, fun vs w' => ∃ i : Nat, vs = [.bool (bad0 || anyB off (rs.take i)), vi i] ∧ i ≤ rs.length ∧ Sat (recR.sl (.slice A2 rs.length c2) rs :: Γ) (.blk b15 [y0, y1, y2, y3, y4, .slice A2 rs.length c2] 32 :: .blk b14 (rqC 5 1 ⟨#[116]⟩ 3 off most nilS) 42 :: .blk a (rdC ⟨#[116]⟩ 3 off 1) 137 :: L) w', fun vs _ => match vs with | [_, .int _ i] => (rs.length - i).toNat | _ => 0, ⟨0, ?_, by omega, hS⟩, ?_⟩
  · rw [hbad0]
    show [Value.bool (decide ((0 : Int) < p.length) && !decide (oErr R = 0)), _] = _
    simp [anyB]
  rintro _ w8 ⟨i, rfl, hi, hS⟩
  refine ⟨rfl, ?_⟩
  refine ⟨_, rfl, _, _, ⟨rfl, cell_of (hS.blk (k := 0) rfl) rfl⟩, ?_⟩
  refine ⟨fun hlt => ?_, fun hlt => ?_⟩
  · have hlt : i < rs.length := by
      have h : decide ((i : Int) < rs.length) = true := hlt
      have := of_decide_eq_true h; omega
    have ei : IntKind.i64.wrap ((i : Int) + 1) = ((i + 1 : Nat) : Int) := w64 (by omega)
    obtain ⟨a0, r, kv, vv, rfl, hr, hcs, _⟩ := hS.recAt mh i hlt
    refine ⟨_, fun _ => rfl, _, _, fun _ => ⟨rfl, cell_of (hS.blk (k := 0) rfl) rfl⟩, a0, fun _ => ⟨rfl, by omega, by omega⟩, _, fun _ => rfl, _, vi r.off, fun _ => ⟨rfl, cellsAt_get hcs (i := 0) rfl⟩, ?_⟩
    refine ⟨⟨i + 1, ?_, hlt, hS⟩, ?_⟩
    · show [Value.bool ((bad0 || anyB off (rs.take i)) || decide (r.off < off)), vi (IntKind.i64.wrap ((i : Int) + 1))] = _
      rw [ei, List.take_add_one, hr]
      simp [anyB, Bool.or_assoc]
    · show (rs.length - IntKind.i64.wrap ((i : Int) + 1)).toNat < (rs.length - (i : Int)).toNat
      rw [ei]; omega
  have hlt : ¬ i < rs.length := by
    have h : decide ((i : Int) < rs.length) = false := hlt
    have := of_decide_eq_false h; omega
  rw [List.take_of_length_le (by omega)]
  obtain ⟨G, hG⟩ : ∃ G, G = gotD 1 corr code p off := ⟨_, rfl⟩
  refine (c20 hS (k := 2) rfl (xo := 0) (xl := 0) (xg := 0) (mem := ⟨#[]⟩) (lead := ⟨#[]⟩) (names := nilS) (nums := nilS) rfl rfl (mt hv) (by omega) hG).mono ?_
  rintro _ w9 ⟨rv, rfl, hS⟩
  obtain ⟨g1, g2, g3⟩ := G
  obtain ⟨A3, c3, rfl, _⟩ := hS.slVal mh
  have hS : Sat (recR.sl (.slice A3 g1.length c3) g1 :: recR.sl (.slice A2 rs.length c2) rs :: Γ) (.blk b15 [y0, y1, y2, y3, y4, .slice A2 rs.length c2] 32 :: .blk b14 (rqC 5 1 ⟨#[116]⟩ 3 off most nilS) 42 :: .blk a (rdC ⟨#[116]⟩ 3 g3 1) 137 :: L) w9 := hS
  refine ⟨fun hx => ?_, fun hx => ?_⟩
  · have hx : (!decide (corr = 1)) = true := hx
    have hx : corr ≠ 1 := by simpa using hx
    have e : (g1, g2, g3) = (([] : List Rec), (14 : Int), off) := by rw [hG, gotD, if_pos (Or.inr hx)]
    simp only [Prod.mk.injEq] at e
    obtain ⟨rfl, rfl, rfl⟩ := e
    refine Or.inr ⟨_, fun _ => (c21 hS (k := 2) rfl).mono fun _ _ h => h, ?_⟩
    refine Or.inl ⟨fun _ => (c16 hS).mono ?_, fun h => absurd ⟨by simp, trivial⟩ h⟩
    rintro _ w10 ⟨rfl, hS⟩
    exact ⟨by show Value.bool (_ && _) = _; simp, hS.weak (Γ' := [_, _]) (L' := [_, _, _])⟩
  have hx : (!decide (corr = 1)) = false := hx
  have hcorr : corr = 1 := by simpa using hx
  subst hcorr
  refine ⟨fun hx => ?_, fun hx => ?_⟩
  · have hx : (!decide (code = 0)) = true := hx
    have hx : code ≠ 0 := by simpa using hx
    have e : (g1, g2, g3) = (([] : List Rec), code, off) := by rw [hG, gotD, if_neg (by simp), if_pos hx]
    simp only [Prod.mk.injEq] at e
    obtain ⟨rfl, rfl, rfl⟩ := e
    refine Or.inr ⟨_, fun _ => (c21 hS (k := 2) rfl).mono fun _ _ h => h, ?_⟩
    refine Or.inl ⟨fun _ => (c16 hS).mono ?_, fun h => absurd ⟨by simp, trivial⟩ h⟩
    rintro _ w10 ⟨rfl, hS⟩
    exact ⟨by show Value.bool (_ && _) = _; simp, hS.weak (Γ' := [_, _]) (L' := [_, _, _])⟩
  have hx : (!decide (code = 0)) = false := hx
  have hcode : code = 0 := by simpa using hx
  subst hcode
  refine ⟨fun hx => ?_, fun hx => ?_⟩
  · have hx : (bad0 || anyB off rs) = true := hx
    rw [hbad0, hrs] at hx
    have e := hG.trans (got_bad hR hx)
    simp only [Prod.mk.injEq] at e
    obtain ⟨rfl, rfl, rfl⟩ := e
    refine Or.inr ⟨_, fun _ => (c21 hS (k := 2) rfl).mono fun _ _ h => h, ?_⟩
    refine Or.inl ⟨fun _ => (c16 hS).mono ?_, fun h => absurd ⟨by simp, trivial⟩ h⟩
    rintro _ w10 ⟨rfl, hS⟩
    exact ⟨by show Value.bool (_ && _) = _; simp, hS.weak (Γ' := [_, _]) (L' := [_, _, _])⟩
  have hx : (bad0 || anyB off rs) = false := hx
  rw [hbad0, hrs] at hx
  have e := hG.trans (got_ok hR hx)
  rw [← hrs] at e
  simp only [Prod.mk.injEq] at e
  obtain ⟨rfl, rfl, hg3⟩ := e
  refine ⟨_, rfl, _, _, ⟨rfl, cell_of (hS.blk (k := 0) rfl) rfl⟩, ?_⟩
  refine ⟨[21], fun vs u => vs = [vi g3] ∧ Sat (recR.sl (.slice A3 g1.length c3) g1 :: recR.sl (.slice A2 g1.length c2) g1 :: Γ) (.blk b15 [y0, y1, y2, y3, y4, .slice A2 g1.length c2] 32 :: .blk b14 (rqC 5 1 ⟨#[116]⟩ 3 off most nilS) 42 :: .blk a (rdC ⟨#[116]⟩ 3 g3 1) 137 :: L) u, by kernel_rfl, fun hx => ?_, fun hx => ?_, ?_⟩
  · have hx : decide ((0 : Int) < g1.length) = true := hx
    have hpos : 0 < g1.length := by have := of_decide_eq_true hx; omega
    have em : IntKind.i64.wrap ((g1.length : Int) - 1) = (g1.length : Int) - 1 := w64 (by omega)
    obtain ⟨a0, r, kv, vv, e1, hr, hcs, _⟩ := hS.recAt (mt mh) (g1.length - 1) (by omega)
    subst e1
    refine ⟨_, rfl, _, _, ⟨rfl, cell_of (hS.blk (k := 0) rfl) rfl⟩, ?_⟩
    refine ⟨_, rfl, _, _, ⟨rfl, cell_of (hS.blk (k := 0) rfl) rfl⟩, a0, ⟨rfl, ?_, ?_⟩, _, rfl, _, vi r.off, ⟨rfl, ?_⟩, ?_⟩
    · show 0 ≤ IntKind.i64.wrap ((g1.length : Int) - 1)
      rw [em]; omega
    · show IntKind.i64.wrap ((g1.length : Int) - 1) < _
      rw [em]; omega
    · show w9.cell? ((a0.add ((IntKind.i64.wrap ((g1.length : Int) - 1)).toNat * 6)).add 0) = _
      rw [em, show ((g1.length : Int) - 1).toNat = g1.length - 1 by omega]
      exact cellsAt_get hcs (i := 0) rfl
    · refine ⟨?_, hS⟩
      rw [hg3, if_neg (by omega)]
      have : lastOff g1 = r.off := by
        unfold lastOff
        rw [List.getLast?_eq_getElem?, hr]
      rw [this]
  · have hx : decide ((0 : Int) < g1.length) = false := hx
    have h0 : g1.length = 0 := by have := of_decide_eq_false hx; omega
    refine ⟨?_, hS⟩
    rw [hg3, if_pos h0]
  rintro _ w10 ⟨rfl, hS⟩
  refine ⟨rfl, ?_⟩
  refine ⟨_, fun _ => rfl, _, _, fun _ => ⟨rfl, cell_of (hS.blk (k := 0) rfl) rfl⟩, ?_⟩
  refine Or.inl ⟨fun _ => (c22 hS mh (mt mh)).mono ?_, fun h => absurd ⟨rfl, trivial⟩ h⟩
  rintro _ w11 ⟨r, rfl, hr, hS⟩
  obtain rfl : r = true := hr.2 rfl
  refine Or.inr ⟨_, fun _ => (c21 hS (k := 2) rfl).mono fun _ _ h => h, ?_⟩
  refine Or.inl ⟨fun _ => (c18 hS (k := 2) rfl 1).mono ?_, fun h => absurd ⟨by simp, trivial⟩ h⟩
  rintro _ w12 ⟨rfl, hS⟩
  refine Or.inl ⟨fun _ => ?_, fun h => absurd ⟨by simp, trivial⟩ h⟩
  refine ⟨vi 2, w12, by kernel_rfl, ?_⟩
  refine Or.inl ⟨fun _ => (c16 hS).mono ?_, fun h => absurd ⟨by simp, trivial⟩ h⟩
  rintro _ w13 ⟨rfl, hS⟩
  exact ⟨by show Value.bool (_ && _) = _; simp, hS.weak (Γ' := [_, _]) (L' := [_, _, _])⟩
end
end Go.Proofs.Yticgmchbihakkaa

namespace Go.Proofs.Yticgmchbihakkaa
open Go Go.Den
set_option maxRecDepth 100000

theorem decD_enc {b : Bat} (h : chk b = 0) : decD (encB b) = some b := by
  have hf : firstD (encB b) = some (b, (encB b).length) := Begins.firstD ⟨h, rfl, List.take_length⟩
  unfold decD
  rw [hf]
  simp
/-- What a Reader says to an encoded batch. -/
theorem got_enc {b : Bat} {corr at0 : Int} (h : chk b = 0) (hc : corr ≠ 0) : gotD corr corr 0 (encB b) at0 = gotB at0 (some b) := by
  unfold gotD
  have h1 := (decD_chk (decD_enc h)).2.2
  rw [if_neg (by simp [hc]), if_neg (by simp), if_neg (by omega), decD_enc h]

theorem gotB_bad {b : Bat} {r : Rec} {at0 : Int} (hb : b.recs[0]? = some r) (h : r.off < at0) : gotB at0 (some b) = ([], 2, at0) := by
  obtain hb' | ⟨r', rs, hb'⟩ : b.recs = [] ∨ ∃ r rs, b.recs = r :: rs := by
    cases b.recs with
    | nil => exact .inl rfl
    | cons r rs => exact .inr ⟨r, rs, rfl⟩
  · rw [hb'] at hb; cases hb
  · rw [hb'] at hb
    have : r' = r := by simpa using hb
    subst this
    simp [gotB, hb', h]
theorem gotB_ok {b : Bat} {at0 : Int} (h : ∀ r, b.recs[0]? = some r → ¬ r.off < at0) : gotB at0 (some b) = (b.recs, 0, if b.recs.length = 0 then at0 else IntKind.i64.wrap (lastOff b.recs + 1)) := by
  obtain hb' | ⟨r', rs, hb'⟩ : b.recs = [] ∨ ∃ r rs, b.recs = r :: rs := by
    cases b.recs with
    | nil => exact .inl rfl
    | cons r rs => exact .inr ⟨r, rs, rfl⟩
  · simp [gotB, hb']
  · have h := h r' (by rw [hb']; rfl)
    simp [gotB, hb', h]

section
variable {Γ : List PP} {L : List HP} {w : World}
/-- An argument's batch. -/
theorem _root_.Go.Den.Sat.batAt (h : Sat Γ L w) {A : Option Addr} {n c : Nat} {bs : List Bat} (hm : batR.sl (.slice A n c) bs ∈ Γ) (i : Nat) (hi : i < n) :
    ∃ a b o A' c', A = some a ∧ bs[i]? = some b ∧ b.recs.length ≤ c' ∧ c' ≤ maxLen ∧ (∀ u : World, u.heap[a.block]? = some o → cellsAt u (a.add (i * 6)) 0 [vi b.base, vi b.last, vi b.prod, vi b.epoch, vi b.seq, .slice A' b.recs.length c']) ∧
      Sat (ob a.block o :: recR.sl (.slice A' b.recs.length c') b.recs :: bat (.agg #[vi b.base, vi b.last, vi b.prod, vi b.epoch, vi b.seq, .slice A' b.recs.length c']) b :: Γ) L w := by
  obtain ⟨a, b, cs, o, rfl, hb, hl, hcs, hS⟩ := h.slOb hm i hi
  have hS := hS.batOf (mt mh)
  obtain ⟨rv, e, hS⟩ := hS.bat mh
  obtain ⟨A', c', rfl, h1, h2, _⟩ := hS.slVal mh
  have e : cs = [vi b.base, vi b.last, vi b.prod, vi b.epoch, vi b.seq, .slice A' b.recs.length c'] := by
    have := Value.agg.inj e
    simpa using congrArg Array.toList this
  subst e
  refine ⟨a, b, o, A', c', rfl, hb, h1, h2, hcs, hS.sub fun q hq => ?_⟩
  rcases List.mem_cons.1 hq with rfl | hq
  · exact mt (mt mh)
  rcases List.mem_cons.1 hq with rfl | hq
  · exact mh
  rcases List.mem_cons.1 hq with rfl | hq
  · exact mt mh
  · exact mt (mt (mt (mt hq)))

set_option maxHeartbeats 2000000 in
theorem c5 (h : Sat Γ L w) {v : Value} {bs : List Bat} (hv : batR.sl v bs ∈ Γ) (off : Int) : Meets Try.prog 5 [v, vi off] w fun v' w' => v' = .bool true ∧ Sat Γ L w' := by
  obtain ⟨A, c, rfl, hc1, hc2, _⟩ := h.slVal hv
  refine spec_of Try.func5 Try.ntmps5 Try.results5 rfl (by kernel_rfl) rfl ?_
  refine (c23 h hv 3000).mono ?_
  rintro _ w1 ⟨m, rfl, hS⟩
  refine ⟨fun hc => ?_, fun hc => ?_⟩
  · exact (c16 hS).mono fun _ _ ⟨e, hS⟩ => ⟨by rw [e]; rfl, hS⟩
  have hc : (decide (3000 < m) || decide ((20 : Int) < bs.length) || decide (off < 0) || decide (4611686018427387904 < off)) = false := hc
  simp only [Bool.or_eq_false_iff, decide_eq_false_iff_not] at hc
  obtain ⟨⟨⟨_, hn⟩, ho1⟩, ho2⟩ := hc
  refine (c17 hS ⟨#[116]⟩ 0 off).mono ?_
  rintro _ w2 (⟨hb, _⟩ | ⟨_, a, rfl, hS⟩)
  · omega
  refine ⟨fun h => (by cases h), fun _ => ?_⟩
  refine ⟨[4, 7, 8], by kernel_rfl, fun vs w' => ∃ (i : Nat) (at0 corr : Int), vs = [.bool false, vi at0, vi i] ∧ i ≤ bs.length ∧ 0 ≤ corr ∧ corr ≤ i ∧ Sat Γ (.blk a (rdC ⟨#[116]⟩ 0 at0 corr) 137 :: L) w', fun vs _ => match vs with | [_, _, .int _ i] => (bs.length - i).toNat | _ => 0, ⟨0, off, 0, rfl, by omega, by omega, by omega, hS⟩, ?_⟩
  rintro _ w3 ⟨i, at0, corr, rfl, hi, hcr0, hcr1, hS⟩
  refine ⟨rfl, fun hlt => ?_, fun hlt => ?_⟩
  · have hlt : i < bs.length := by
      have h : decide ((i : Int) < bs.length) = true := hlt
      have := of_decide_eq_true h; omega
    have ei : IntKind.i64.wrap ((i : Int) + 1) = ((i + 1 : Nat) : Int) := w64 (by omega)
    have ecr : IntKind.i64.wrap (corr + 1) = corr + 1 := w64 (by omega)
    obtain ⟨a0, b, o, A1, c1, rfl, hb, hr1, hr2, hcs, hS⟩ := hS.batAt hv i hlt
    simp only [maxLen] at hr2
    have hld : ∀ {u : World} {Γ' : List PP} {L' : List HP}, Sat Γ' L' u → ob a0.block o ∈ Γ' → u.cell? ((a0.add (i * 6)).add 5) = some (.slice A1 b.recs.length c1) := fun hS hm => cellsAt_get (hcs _ (hS.obAt hm)) (i := 5) rfl
    refine ⟨a0, ⟨rfl, by omega, by omega⟩, _, rfl, _, .slice A1 b.recs.length c1, ⟨rfl, hld hS mh⟩, ?_⟩
    refine ⟨fun _ => ?_, fun h100 => ?_⟩
    · exact (c16 hS).mono fun _ _ ⟨e, hS⟩ => ⟨by rw [e]; rfl, hS.weak (Γ' := [_, _, _]) (L' := [_])⟩
    refine ⟨a0, ⟨rfl, by omega, by omega⟩, _, [vi b.base, vi b.last, vi b.prod, vi b.epoch, vi b.seq, .slice A1 b.recs.length c1], ⟨rfl, rfl, hcs _ (hS.obAt mh)⟩, ?_⟩
    refine (c24 hS (mt (mt mh))).mono ?_
    rintro _ w4 ⟨u, rfl, hS⟩
    obtain ⟨U, cu, rfl, _⟩ := hS.bytVal mh
    have next : ∀ {u : World} {at1 cr : Int}, 0 ≤ cr → cr ≤ corr + 1 → Sat Γ (.blk a (rdC ⟨#[116]⟩ 0 at1 cr) 137 :: L) u → (∃ (j : Nat) (at0 corr : Int), [Value.bool false, vi at1, vi (IntKind.i64.wrap ((i : Int) + 1))] = [.bool false, vi at0, vi j] ∧ j ≤ bs.length ∧ 0 ≤ corr ∧ corr ≤ j ∧ Sat Γ (.blk a (rdC ⟨#[116]⟩ 0 at0 corr) 137 :: L) u) ∧ (bs.length - IntKind.i64.wrap ((i : Int) + 1)).toNat < (bs.length - (i : Int)).toNat := by
      intro u at1 cr h1 h2 hS
      refine ⟨⟨i + 1, at1, cr, by rw [ei], hlt, h1, by omega, hS⟩, ?_⟩
      rw [ei]; omega
    refine ⟨fun hx => ?_, fun hx => ?_⟩
    · exact next hcr0 (by omega) (hS.weak (Γ' := [_, _, _, _]) (L' := []))
    have hx : (!decide ((chk b : Int) = 0)) = false := hx
    have hchk : chk b = 0 := by simp at hx; omega
    rw [hchk, if_pos rfl] at hS
    rw [hchk, if_pos rfl]
    refine (c18 hS (k := 0) rfl 10).mono ?_
    rintro _ w5 ⟨rfl, hS⟩
    rw [ecr] at hS ⊢
    have hS : Sat _ (.blk a (rdC ⟨#[116]⟩ 0 at0 (corr + 1)) 137 :: L) w5 := hS
    refine hS.new fun b11 w6 hS => ?_
    refine hS.stAll (vs := rqC 5 (corr + 1) ⟨#[116]⟩ 0 at0 10 nilS) (k := 0) rfl rfl (one_of rfl) fun w7 hS => ?_
    have hS : Sat _ (.blk b11 (rqC 5 (corr + 1) ⟨#[116]⟩ 0 at0 10 nilS) 42 :: .blk a (rdC ⟨#[116]⟩ 0 at0 (corr + 1)) 137 :: L) w7 := hS
    refine ⟨_, rfl, _, _, ⟨rfl, cell_of (hS.blk (k := 0) rfl) rfl⟩, ?_⟩
    obtain ⟨G, hG⟩ : ∃ G, G = gotD (corr + 1) (corr + 1) 0 (encB b) at0 := ⟨_, rfl⟩
    have hlen : (encB b).length ≤ 65536 := (chk_parts hchk).2.1
    refine (c20 hS (k := 1) rfl (xo := 0) (xl := 0) (xg := 0) (mem := ⟨#[]⟩) (lead := ⟨#[]⟩) (names := nilS) (nums := nilS) rfl rfl mh (by omega) hG).mono ?_
    rintro _ w8 ⟨rv, rfl, hS⟩
    rw [got_enc hchk (by omega)] at hG
    obtain ⟨g1, g2, g3⟩ := G
    obtain ⟨A3, c3, rfl, _⟩ := hS.slVal mh
    have hS : Sat _ (.blk b11 (rqC 5 (corr + 1) ⟨#[116]⟩ 0 at0 10 nilS) 42 :: .blk a (rdC ⟨#[116]⟩ 0 g3 (corr + 1)) 137 :: L) w8 := hS
    refine ⟨_, rfl, _, _, ⟨rfl, cell_of (hS.blk (k := 0) rfl) rfl⟩, ?_⟩
    refine ⟨fun hx => ?_, fun _ => ?_⟩
    · exfalso
      have hx : (!decide (at0 = at0)) = true := hx
      simp at hx
    refine ⟨a0, ⟨rfl, by omega, by omega⟩, _, rfl, _, .slice A1 b.recs.length c1, ⟨rfl, hld hS (mt (mt mh))⟩, ?_⟩
    obtain ⟨ar, ro, hra⟩ : ∃ (ar : Addr) (ro : Int), 0 < b.recs.length → A1 = some ar ∧ (∃ r, b.recs[0]? = some r ∧ r.off = ro) ∧ w8.cell? ((ar.add (0 * 6)).add 0) = some (vi ro) := by
      by_cases h0 : 0 < b.recs.length
      · obtain ⟨ar, r, kv, vv, e1, hr, hcs, _⟩ := hS.recAt (mt (mt (mt mh))) 0 h0
        exact ⟨ar, r.off, fun _ => ⟨e1, ⟨r, hr, rfl⟩, cellsAt_get hcs (i := 0) rfl⟩⟩
      · exact ⟨⟨0, 0, none⟩, 0, fun h => absurd h h0⟩
    have hpos : (decide ((0 : Int) < b.recs.length) = true) → 0 < b.recs.length := fun h => by have := of_decide_eq_true h; omega
    refine ⟨a0, fun _ => ⟨rfl, by omega, by omega⟩, _, fun _ => rfl, _, .slice A1 b.recs.length c1, fun _ => ⟨rfl, hld hS (mt (mt mh))⟩, ar, fun h => ⟨(hra (hpos h)).1, by decide, ?_⟩, _, fun _ => rfl, _, vi ro, fun h => ⟨rfl, (hra (hpos h)).2.2⟩, ?_⟩
    · have := hpos h
      show (0 : Int) < _
      omega
    have fin : ∀ {u : World} {at1 : Int}, g3 = at1 → Sat _ (.blk b11 (rqC 5 (corr + 1) ⟨#[116]⟩ 0 at0 10 nilS) 42 :: .blk a (rdC ⟨#[116]⟩ 0 g3 (corr + 1)) 137 :: L) u → Sat Γ (.blk a (rdC ⟨#[116]⟩ 0 at1 (corr + 1)) 137 :: L) u := fun {u at1} e (hS : Sat (recR.sl (.slice A3 g1.length c3) g1 :: byt (.slice U (encB b).length cu) (encB b) :: ob a0.block o :: recR.sl (.slice A1 b.recs.length c1) b.recs :: bat (.agg #[vi b.base, vi b.last, vi b.prod, vi b.epoch, vi b.seq, .slice A1 b.recs.length c1]) b :: Γ) _ u) => by
      subst e
      exact hS.weak (Γ' := [_, _, _, _, _]) (L' := [_])
    refine ⟨fun hx => ?_, fun hx => ?_⟩
    · have hx : (decide ((0 : Int) < b.recs.length) && decide (ro < at0)) = true := hx
      rw [Bool.and_eq_true] at hx
      have hx2 := of_decide_eq_true hx.2
      obtain ⟨_, ⟨r, hr, hro⟩, _⟩ := hra (hpos hx.1)
      rw [gotB_bad hr (by omega)] at hG
      simp only [Prod.mk.injEq] at hG
      obtain ⟨rfl, rfl, rfl⟩ := hG
      refine ⟨fun h => (by cases h), fun _ => ?_⟩
      refine (c21 hS (k := 1) rfl).mono ?_
      rintro _ _ ⟨rfl, rfl⟩
      refine ⟨fun hx => ?_, fun _ => ?_⟩
      · exfalso
        have hx : (!decide (g3 = g3)) = true := hx
        simp at hx
      · exact next (by omega) (by omega) (fin rfl hS)
    · have hx : (decide ((0 : Int) < b.recs.length) && decide (ro < at0)) = false := hx
      rw [gotB_ok fun r hr h => by
        have h0 := (List.getElem?_eq_some_iff.1 hr).1
        obtain ⟨_, ⟨r', hr', hro⟩, _⟩ := hra h0
        rw [hr] at hr'; cases hr'
        rw [decide_eq_true (by omega), decide_eq_true (by omega)] at hx
        cases hx] at hG
      simp only [Prod.mk.injEq] at hG
      obtain ⟨rfl, rfl, hg3⟩ := hG
      refine ⟨a0, fun _ => ⟨rfl, by omega, by omega⟩, _, fun _ => rfl, _, .slice A1 b.recs.length c1, fun _ => ⟨rfl, hld hS (mt (mt mh))⟩, ?_⟩
      refine Or.inl ⟨fun _ => (c22 hS mh (mt (mt (mt mh)))).mono ?_, fun h => absurd ⟨rfl, trivial⟩ h⟩
      rintro _ w9 ⟨t, rfl, ht, hS⟩
      obtain rfl : t = true := ht.2 rfl
      refine ⟨fun h => (by cases h), fun _ => ?_⟩
      refine ⟨fun h0 => ?_, fun h0 => ?_⟩
      · have hp := hpos h0
        have em : IntKind.i64.wrap ((b.recs.length : Int) - 1) = (b.recs.length : Int) - 1 := w64 (by omega)
        obtain ⟨al, r, kv, vv, e1, hr, hcsl, _⟩ := hS.recAt (mt (mt (mt mh))) (b.recs.length - 1) (by omega)
        refine ⟨a0, ⟨rfl, by omega, by omega⟩, _, rfl, _, .slice A1 b.recs.length c1, ⟨rfl, hld hS (mt (mt mh))⟩, al, ⟨e1, ?_, ?_⟩, _, rfl, _, vi r.off, ⟨rfl, ?_⟩, ?_⟩
        · show 0 ≤ IntKind.i64.wrap ((b.recs.length : Int) - 1)
          rw [em]; omega
        · show IntKind.i64.wrap ((b.recs.length : Int) - 1) < _
          rw [em]; omega
        · show w9.cell? ((al.add ((IntKind.i64.wrap ((b.recs.length : Int) - 1)).toNat * 6)).add 0) = _
          rw [em, show ((b.recs.length : Int) - 1).toNat = b.recs.length - 1 by omega]
          exact cellsAt_get hcsl (i := 0) rfl
        have hlo : lastOff b.recs = r.off := by
          unfold lastOff
          rw [List.getLast?_eq_getElem?, hr]
        rw [if_neg (by omega), hlo] at hg3
        refine (c21 hS (k := 1) rfl).mono ?_
        rintro _ _ ⟨rfl, rfl⟩
        refine ⟨fun hx => ?_, fun _ => ?_⟩
        · exfalso
          have hx : (!decide (g3 = IntKind.i64.wrap (r.off + 1))) = true := hx
          rw [hg3] at hx
          simp at hx
        · exact next (by omega) (by omega) (fin hg3 hS)
      · have h0 : decide ((0 : Int) < b.recs.length) = false := h0
        have h0 : b.recs.length = 0 := by have := of_decide_eq_false h0; omega
        rw [if_pos h0] at hg3
        refine (c21 hS (k := 1) rfl).mono ?_
        rintro _ _ ⟨rfl, rfl⟩
        refine ⟨fun hx => ?_, fun _ => ?_⟩
        · exfalso
          have hx : (!decide (g3 = at0)) = true := hx
          rw [hg3] at hx
          simp at hx
        · exact next (by omega) (by omega) (fin hg3 hS)
  · exact (c16 hS).mono fun _ _ ⟨e, hS⟩ => ⟨by rw [e]; rfl, hS.drop⟩
end
end Go.Proofs.Yticgmchbihakkaa

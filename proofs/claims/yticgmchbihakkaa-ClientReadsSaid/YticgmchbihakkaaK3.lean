/- cordwainref1's SameRecord, SameRecords; cordwainalike's Sum, Batch, Batches. -/
import Derived.Test.YticgmchbihakkaaK2
set_option linter.unusedVariables false
set_option linter.unusedSimpArgs false
namespace Go.Proofs.Yticgmchbihakkaa
open Go Go.Den
set_option maxRecDepth 100000

abbrev recC (r : Rec) (kv vv : Value) : List Value := [vi r.off, vi r.time, .bool r.hk, kv, .bool r.hv, vv]
def sameR (a b : Rec) : Bool := decide (a.off = b.off) && decide (a.time = b.time) && decide (a.hk = b.hk) && decide (a.hv = b.hv) && decide (strB a.key = strB b.key) && decide (strB a.val = strB b.val)

section
variable {Γ : List PP} {L : List HP} {w : World}

theorem c71 (h : Sat Γ L w) {a b : Rec} {ka va kb vb : Value} (hka : byt ka a.key ∈ Γ) (hva : byt va a.val ∈ Γ) (hkb : byt kb b.key ∈ Γ) (hvb : byt vb b.val ∈ Γ) :
    Meets Try.prog 71 [.agg (recC a ka va).toArray, .agg (recC b kb vb).toArray] w fun v' w' => v' = .bool (sameR a b) ∧ Sat Γ L w' := by
  obtain ⟨Ka, ca, rfl, _⟩ := h.bytVal hka
  obtain ⟨Va, da, rfl, _⟩ := h.bytVal hva
  obtain ⟨Kb, cb, rfl, _⟩ := h.bytVal hkb
  obtain ⟨Vb, db, rfl, _⟩ := h.bytVal hvb
  refine spec_of Try.func71 Try.ntmps71 Try.results71 rfl (by kernel_rfl) rfl ?_
  refine h.new fun b2 w1 hS => ?_
  have hS : Sat Γ (.blk b2 (recC a (.slice Ka a.key.length ca) (.slice Va a.val.length da)) 47 :: L) w1 := hS
  refine hS.new fun b3 w2 hS => ?_
  have hS : Sat Γ (.blk b3 (recC b (.slice Kb b.key.length cb) (.slice Vb b.val.length db)) 47 :: .blk b2 (recC a (.slice Ka a.key.length ca) (.slice Va a.val.length da)) 47 :: L) w2 := hS
  refine ⟨_, rfl, _, _, ⟨rfl, cell_of (hS.blk (k := 1) rfl) rfl⟩, ?_⟩
  refine ⟨_, rfl, _, _, ⟨rfl, cell_of (hS.blk (k := 0) rfl) rfl⟩, ?_⟩
  refine ⟨_, fun _ => rfl, _, _, fun _ => ⟨rfl, cell_of (hS.blk (k := 1) rfl) rfl⟩, ?_⟩
  refine ⟨_, fun _ => rfl, _, _, fun _ => ⟨rfl, cell_of (hS.blk (k := 0) rfl) rfl⟩, ?_⟩
  refine ⟨_, fun _ => rfl, _, _, fun _ => ⟨rfl, cell_of (hS.blk (k := 1) rfl) rfl⟩, ?_⟩
  refine ⟨_, fun _ => rfl, _, _, fun _ => ⟨rfl, cell_of (hS.blk (k := 0) rfl) rfl⟩, ?_⟩
  refine ⟨_, fun _ => rfl, _, _, fun _ => ⟨rfl, cell_of (hS.blk (k := 1) rfl) rfl⟩, ?_⟩
  refine ⟨_, fun _ => rfl, _, _, fun _ => ⟨rfl, cell_of (hS.blk (k := 0) rfl) rfl⟩, ?_⟩
  refine ⟨_, fun _ => rfl, _, _, fun _ => ⟨rfl, cell_of (hS.blk (k := 1) rfl) rfl⟩, ?_⟩
  refine Or.inr ⟨_, fun _ => ⟨_, _, hS.str hka, rfl, rfl⟩, ?_⟩
  refine ⟨_, fun _ => rfl, _, _, fun _ => ⟨rfl, cell_of (hS.blk (k := 0) rfl) rfl⟩, ?_⟩
  refine Or.inr ⟨_, fun _ => ⟨_, _, hS.str hkb, rfl, rfl⟩, ?_⟩
  refine ⟨_, fun _ => rfl, _, _, fun _ => ⟨rfl, cell_of (hS.blk (k := 1) rfl) rfl⟩, ?_⟩
  refine Or.inr ⟨_, fun _ => ⟨_, _, hS.str hva, rfl, rfl⟩, ?_⟩
  refine ⟨_, fun _ => rfl, _, _, fun _ => ⟨rfl, cell_of (hS.blk (k := 0) rfl) rfl⟩, ?_⟩
  refine Or.inr ⟨_, fun _ => ⟨_, _, hS.str hvb, rfl, rfl⟩, ?_⟩
  exact ⟨rfl, hS.drop.drop⟩
theorem sameR_iff {a b : Rec} : sameR a b = true ↔ a = b := by
  unfold sameR
  simp only [Bool.and_eq_true, decide_eq_true_eq]
  constructor
  · rintro ⟨⟨⟨⟨⟨h1, h2⟩, h3⟩, h4⟩, h5⟩, h6⟩
    have h5 := strB_inj h5
    have h6 := strB_inj h6
    cases a; cases b; simp_all
  · rintro rfl; simp

theorem c22 (h : Sat Γ L w) {va vb : Value} {ps qs : List Rec} (ha : recR.sl va ps ∈ Γ) (hb : recR.sl vb qs ∈ Γ) :
    Meets Try.prog 22 [va, vb] w fun v' w' => ∃ r : Bool, v' = .bool r ∧ (r = true ↔ ps = qs) ∧ Sat Γ L w' := by
  obtain ⟨A, ca, rfl, ha1, ha2, ha3⟩ := h.slVal ha
  obtain ⟨B, cb, rfl, hb1, hb2, hb3⟩ := h.slVal hb
  simp only [maxLen] at ha2 hb2
  refine spec_of Try.func22 Try.ntmps22 Try.results22 rfl (by kernel_rfl) rfl ?_
  refine ⟨fun hc => ?_, fun hc => ?_⟩
  · have hc : (!decide ((ps.length : Int) = qs.length)) = true := hc
    refine ⟨false, rfl, ⟨fun h => (by cases h), fun h => ?_⟩, h⟩
    subst h; simp at hc
  have hc : (!decide ((ps.length : Int) = qs.length)) = false := hc
  have hc : ps.length = qs.length := by simp at hc; omega
  refine ⟨[4, 5], by kernel_rfl, fun vs w' => ∃ i : Nat, vs = [.bool false, vi i] ∧ i ≤ ps.length ∧ ps.take i = qs.take i ∧ Sat Γ L w', fun vs _ => match vs with | [_, .int _ j] => (ps.length - j).toNat | _ => 0, ⟨0, rfl, Nat.zero_le _, rfl, h⟩, ?_⟩
  rintro _ w2 ⟨i, rfl, hi, he, hS⟩
  refine ⟨rfl, ?_⟩
  refine ⟨fun hlt => ?_, fun hlt => ?_⟩
  · have hlt : i < ps.length := by
      have h : decide ((i : Int) < ps.length) = true := hlt
      have := of_decide_eq_true h; omega
    have hS := hS.drew
    obtain ⟨a0, ra, kva, vva, rfl, hra, hca, hS1⟩ := hS.recAt ha i hlt
    obtain ⟨b0, rb, kvb, vvb, rfl, hrb, hcb, hS2⟩ := hS1.recAt (mt (mt hb)) i (by omega)
    refine ⟨hs [0, 1, 2, 3, 4, 5, 6, 7] (.one 8 false (hs [9] .nil)), fun u => u = w2.drew, by kernel_rfl, by kernel_rfl, rfl, ?_⟩
    refine ⟨a0, ⟨rfl, by omega, by omega⟩, ?_⟩
    refine ⟨_, recC ra kva vva, ⟨rfl, rfl, fun u hu => by rw [hu]; exact hca⟩, b0, ⟨rfl, by omega, by omega⟩, _, recC rb kvb vvb, ⟨rfl, rfl, fun u hu => by rw [hu]; exact hcb⟩, ?_⟩
    refine (c71 hS2 (mt (mt mh)) (mt (mt (mt mh))) mh (mt mh)).mono ?_
    rintro _ w3 ⟨rfl, hS⟩
    have hS := hS.weak (Γ' := [_, _, _, _]) (L' := [])
    refine ⟨fun hr => ?_, fun hr => ?_⟩
    · have hr : (!sameR ra rb) = true := hr
      refine ⟨false, rfl, ⟨fun h => (by cases h), fun h => ?_⟩, hS⟩
      subst h
      rw [hra] at hrb; cases hrb
      rw [sameR_iff.2 rfl] at hr; cases hr
    · have hr : (!sameR ra rb) = false := hr
      have hr : ra = rb := sameR_iff.1 (by simpa using hr)
      have ei : IntKind.i64.wrap ((i : Int) + 1) = ((i + 1 : Nat) : Int) := w64 (by omega)
      refine ⟨⟨i + 1, ?_, hlt, ?_, hS⟩, ?_⟩
      · show [_, vi (IntKind.i64.wrap ((i : Int) + 1))] = _
        rw [ei]
      · rw [List.take_add_one, List.take_add_one, he, hra, hrb, hr]
      · show (ps.length - IntKind.i64.wrap ((i : Int) + 1)).toNat < (ps.length - (i : Int)).toNat
        rw [ei]; omega
  · have hlt : ¬ i < ps.length := by
      have h : decide ((i : Int) < ps.length) = false := hlt
      have := of_decide_eq_false h; omega
    refine ⟨true, rfl, ⟨fun _ => ?_, fun _ => rfl⟩, hS⟩
    rw [List.take_of_length_le (by omega), List.take_of_length_le (by omega)] at he
    exact he
end
end Go.Proofs.Yticgmchbihakkaa

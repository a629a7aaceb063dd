/- client.Reader: NewReader, Ask, Offset, Got; Decode. client.Reader.Got; SameRecord, SameRecords. cordwainref1's SameRecord, SameRecords; cordwainalike's Sum, Batch, Batches. -/
import Derived.Test.YticgmchbihakkaaC13
set_option linter.unusedVariables false
set_option linter.unusedSimpArgs false
namespace Go.Proofs.Yticgmchbihakkaa
open Go Go.Den
set_option maxRecDepth 100000

def decD (p : Bytes) : Option Bat := match firstD p with
  | some (b, n) => if n = p.length then some b else none
  | none => none
def oErr : Option Bat → Int
  | some _ => 0
  | none => 2
abbrev vs0 : Value := .string ⟨#[]⟩
/-- A Reader's cells. -/
abbrev rdC (t : ByteArray) (part off corr : Int) : List Value := [.string t, vi part, vi off, vi corr]
abbrev nilP : Value := .pointer none
abbrev nilS : Value := .slice none 0 0
/-- A Request's cells. -/
abbrev rqC (kind corr : Int) (topic : ByteArray) (part off most : Int) (data : Value) : List Value := [vi kind, vi corr, vs0, .string topic, vi part, vi off, vi 0, vi most, vs0, vs0, vi 0, nilS, data]
abbrev rspC (corr code off last gen : Int) (mem lead : ByteArray) (names nums data : Value) : List Value := [vi corr, vi code, vi off, vi last, vi gen, .string mem, .string lead, names, nums, data]

section
variable {Γ : List PP} {L : List HP} {w : World}

theorem c17 (h : Sat Γ L w) (t : ByteArray) (part off : Int) : Meets Try.prog 17 [.string t, vi part, vi off] w fun v' w' =>
    ((off < 0 ∨ 4611686018427387904 < off) ∧ v' = .tuple #[nilP, vi 1] ∧ Sat Γ L w') ∨ (¬ (off < 0 ∨ 4611686018427387904 < off) ∧ ∃ a, v' = .tuple #[ptr a, vi 0] ∧ Sat Γ (.blk a (rdC t part off 0) 137 :: L) w') := by
  refine spec_of Try.func17 Try.ntmps17 Try.results17 rfl (by kernel_rfl) rfl ?_
  refine ⟨fun hc => ?_, fun hc => ?_⟩
  · have hc : (decide (off < 0) || decide (4611686018427387904 < off)) = true := hc
    exact .inl ⟨by simpa using hc, rfl, h⟩
  · have hc : (decide (off < 0) || decide (4611686018427387904 < off)) = false := hc
    refine h.new fun a w1 hS => ?_
    exact .inr ⟨by simpa using hc, a, rfl, hS⟩

theorem c18 (h : Sat Γ L w) {k a : Nat} {t : ByteArray} {part off corr : Int} (hk : L[k]? = some (.blk a (rdC t part off corr) 137)) (most : Int) :
    Meets Try.prog 18 [ptr a, vi most] w fun v' w' => v' = .agg (rqC 5 (IntKind.i64.wrap (corr + 1)) t part off most nilS).toArray ∧ Sat Γ (L.set k (.blk a (rdC t part off (IntKind.i64.wrap (corr + 1))) 137)) w' := by
  refine spec_of Try.func18 Try.ntmps18 Try.results18 rfl (by kernel_rfl) rfl ?_
  refine h.new fun b4 w1 hS => ?_
  have hS : Sat Γ (.blk b4 (rqC 0 0 ⟨#[]⟩ 0 0 0 nilS) 42 :: L) w1 := hS
  refine ⟨fun h => (by cases h), fun _ => ?_⟩
  have hk1 : ∀ {P : HP}, (P :: L)[k + 1]? = some (.blk a (rdC t part off corr) 137) := fun {P} => hk
  refine ⟨_, rfl, _, rfl, _, _, ⟨rfl, hS.ld (k := k + 1) hk rfl⟩, _, rfl, _, rfl, hS.st (k := k + 1) (i := 3) hk (by simp) rfl fun w2 hS => ?_⟩
  have hk2 : ((HP.blk b4 (rqC 0 0 ⟨#[]⟩ 0 0 0 nilS) 42 :: L).set (k + 1) (.blk a (rdC t part off (IntKind.i64.wrap (corr + 1))) 137))[k + 1]? = some (.blk a (rdC t part off (IntKind.i64.wrap (corr + 1))) 137) := List.getElem?_set_self (List.getElem?_eq_some_iff.1 hk1).1
  have hS := hS.drew
  have hb := hS.blk (k := k + 1) hk2
  refine ⟨hs [0, 1, 2, 3, 4, 5, 6, 7, 8, 9, 10, 11, 12, 13, 14, 15, 16, 17] (.one 18 false .nil), fun u => u = w2.drew, by kernel_rfl, by kernel_rfl, rfl, ?_⟩
  refine ⟨_, rfl, _, rfl, _, vi (IntKind.i64.wrap (corr + 1)), ⟨rfl, fun u hu => by rw [hu]; exact hS.ld (k := k + 1) hk2 rfl⟩, _, rfl, _, rfl, _, .string t, ⟨rfl, fun u hu => by rw [hu]; exact hS.ld (k := k + 1) hk2 rfl⟩, _, rfl, _, rfl, _, vi part, ⟨rfl, fun u hu => by rw [hu]; exact hS.ld (k := k + 1) hk2 rfl⟩, _, rfl, _, rfl, _, vi off, ⟨rfl, fun u hu => by rw [hu]; exact hS.ld (k := k + 1) hk2 rfl⟩, ?_⟩
  refine hS.stAll (vs := rqC 5 (IntKind.i64.wrap (corr + 1)) t part off most nilS) (k := 0) rfl rfl (one_of rfl) fun w3 hS => ?_
  exact ⟨_, ⟨rfl, hS.ldAll (k := 0) rfl⟩, rfl, hS.drop⟩
theorem c18nil (h : Sat Γ L w) (most : Int) : Meets Try.prog 18 [nilP, vi most] w fun v' w' => v' = .agg (rqC 0 0 ⟨#[]⟩ 0 0 0 nilS).toArray ∧ Sat Γ L w' := by
  refine spec_of Try.func18 Try.ntmps18 Try.results18 rfl (by kernel_rfl) rfl ?_
  refine h.new fun b4 w1 hS => ?_
  have hS : Sat Γ (.blk b4 (rqC 0 0 ⟨#[]⟩ 0 0 0 nilS) 42 :: L) w1 := hS
  refine ⟨fun _ => ?_, fun h => (by cases h)⟩
  refine hS.stAll (vs := rqC 0 0 ⟨#[]⟩ 0 0 0 nilS) (k := 0) rfl rfl (one_of rfl) fun w3 hS => ?_
  exact ⟨_, ⟨rfl, hS.ldAll (k := 0) rfl⟩, rfl, hS.drop⟩
theorem c21 (h : Sat Γ L w) {k a : Nat} {t : ByteArray} {part off corr : Int} (hk : L[k]? = some (.blk a (rdC t part off corr) 137)) : Meets Try.prog 21 [ptr a] w fun v' w' => v' = vi off ∧ w' = w := by
  refine spec_of Try.func21 Try.ntmps21 Try.results21 rfl (by kernel_rfl) rfl ?_
  refine ⟨fun h => (by cases h), fun _ => ?_⟩
  exact ⟨_, rfl, _, rfl, _, _, ⟨rfl, h.ld (k := k) hk rfl⟩, rfl, rfl⟩
theorem c21nil (w : World) : Meets Try.prog 21 [nilP] w fun v' w' => v' = vi 0 ∧ w' = w := by
  refine spec_of Try.func21 Try.ntmps21 Try.results21 rfl (by kernel_rfl) rfl ?_
  exact ⟨fun _ => ⟨rfl, rfl⟩, fun h => (by cases h)⟩

theorem c70 (h : Sat Γ L w) {v : Value} {p : Bytes} (hv : byt v p ∈ Γ) (hl : p.length ≤ 100000000000) {R : Option Bat} (hR : R = decD p) :
    Meets Try.prog 70 [v] w fun v' w' => ∃ us : List Value, v' = .tuple #[.agg us.toArray, vi (oErr R)] ∧ us.length = 6 ∧ (∀ u ∈ us, u.oneCell' = true) ∧ (R = none → us = zBat) ∧ Sat (batO us R :: Γ) L w' := by
  obtain ⟨A, c, rfl, hc1, hc2⟩ := h.bytVal hv
  refine spec_of Try.func70 Try.ntmps70 Try.results70 rfl (by kernel_rfl) rfl ?_
  refine h.new fun b2 w1 hS => ?_
  have hS : Sat Γ (.blk b2 zBat 32 :: L) w1 := hS
  unfold decD at hR
  generalize hF : firstD p = F at hR
  refine (c118 hS hv hl hF.symm).mono ?_
  rintro _ w2 ⟨us, rfl, hu1, hu2, hS⟩
  obtain ⟨y0, y1, y2, y3, y4, y5, rfl⟩ := six_of hu1
  refine hS.new fun b4 w3 hS => ?_
  have hS : Sat _ (.blk b4 zBat 32 :: .blk b2 zBat 32 :: L) w3 := hS
  refine hS.stAll (vs := [y0, y1, y2, y3, y4, y5]) (k := 0) rfl rfl hu2 fun w4 hS => ?_
  have hS : Sat _ (.blk b4 [y0, y1, y2, y3, y4, y5] 32 :: .blk b2 zBat 32 :: L) w4 := hS
  have fail : R = none → ∀ {u : World} {Γ' : List PP}, Sat (Γ' ++ Γ) (.blk b4 [y0, y1, y2, y3, y4, y5] 32 :: .blk b2 zBat 32 :: L) u → wrAt u ⟨b2, 0, none⟩ 0 zBat ∧ ∀ u1, u1 = setCells u ⟨b2, 0, none⟩ 0 zBat → ∃ vs : List Value, (vs.length = 6 ∧ cellsAt u1 ⟨b2, 0, none⟩ 0 vs) ∧ ∃ us : List Value, Value.tuple #[.agg vs.toArray, vi 2] = .tuple #[.agg us.toArray, vi (oErr R)] ∧ us.length = 6 ∧ (∀ u ∈ us, u.oneCell' = true) ∧ (R = none → us = zBat) ∧ Sat (batO us R :: Γ) L u1 := by
    intro hn u Γ' hS
    refine hS.stAll (vs := zBat) (k := 1) rfl rfl zBat_one fun u1 hS => ?_
    exact ⟨zBat, ⟨rfl, hS.ldAll (k := 1) rfl⟩, zBat, by rw [hn]; rfl, rfl, zBat_one, fun _ => rfl, (hS.weak (L' := [_, _])).any _ fun I b hb => by rw [hn] at hb; cases hb⟩
  cases F with
  | none =>
    refine ⟨fun _ => ?_, fun h => (by cases h)⟩
    exact fail hR (Γ' := [_]) hS
  | some x =>
    obtain ⟨bb, n⟩ := x
    dsimp only at hR
    refine ⟨fun hc => ?_, fun hc => ?_⟩
    · have hc : (!decide ((n : Int) = p.length)) = true := hc
      rw [if_neg (by simp at hc; omega)] at hR
      exact fail hR (Γ' := [_]) hS
    · have hc : (!decide ((n : Int) = p.length)) = false := hc
      rw [if_pos (by simp at hc; omega)] at hR
      refine ⟨_, _, ⟨rfl, rfl, hS.ldAll (k := 0) rfl⟩, ?_⟩
      refine hS.stAll (vs := [y0, y1, y2, y3, y4, y5]) (k := 1) rfl rfl hu2 fun w5 hS => ?_
      subst hR
      exact ⟨_, ⟨rfl, hS.ldAll (k := 1) rfl⟩, [y0, y1, y2, y3, y4, y5], rfl, rfl, hu2, (by intro h; cases h), hS.drop.drop⟩
theorem c19 (h : Sat Γ L w) {v : Value} {p : Bytes} (hv : byt v p ∈ Γ) (hl : p.length ≤ 100000000000) {R : Option Bat} (hR : R = decD p) :
    Meets Try.prog 19 [v] w fun v' w' => ∃ us : List Value, v' = .tuple #[.agg us.toArray, vi (oErr R)] ∧ us.length = 6 ∧ (∀ u ∈ us, u.oneCell' = true) ∧ (R = none → us = zBat) ∧ Sat (batO us R :: Γ) L w' := by
  obtain ⟨A, c, rfl, hc1, hc2⟩ := h.bytVal hv
  refine spec_of Try.func19 Try.ntmps19 Try.results19 rfl (by kernel_rfl) rfl ?_
  refine h.new fun b2 w1 hS => ?_
  have hS : Sat Γ (.blk b2 zBat 32 :: L) w1 := hS
  unfold decD at hR
  have hlen := @firstD_len p
  generalize hF : firstD p = F at hR hlen
  refine (c68 hS hv hl (R := F) (by rw [rfD_eq]; exact hF.symm)).mono ?_
  rintro _ w2 ⟨us, rfl, hu1, hu2, hS⟩
  obtain ⟨y0, y1, y2, y3, y4, y5, rfl⟩ := six_of hu1
  refine hS.new fun b4 w3 hS => ?_
  have hS : Sat _ (.blk b4 zBat 32 :: .blk b2 zBat 32 :: L) w3 := hS
  refine hS.stAll (vs := [y0, y1, y2, y3, y4, y5]) (k := 0) rfl rfl hu2 fun w4 hS => ?_
  have hS : Sat _ (.blk b4 [y0, y1, y2, y3, y4, y5] 32 :: .blk b2 zBat 32 :: L) w4 := hS
  have fail : R = none → ∀ {u : World} {Γ' : List PP}, Sat (Γ' ++ Γ) (.blk b4 [y0, y1, y2, y3, y4, y5] 32 :: .blk b2 zBat 32 :: L) u → wrAt u ⟨b2, 0, none⟩ 0 zBat ∧ ∀ u1, u1 = setCells u ⟨b2, 0, none⟩ 0 zBat → ∃ vs : List Value, (vs.length = 6 ∧ cellsAt u1 ⟨b2, 0, none⟩ 0 vs) ∧ ∃ us : List Value, Value.tuple #[.agg vs.toArray, vi 2] = .tuple #[.agg us.toArray, vi (oErr R)] ∧ us.length = 6 ∧ (∀ u ∈ us, u.oneCell' = true) ∧ (R = none → us = zBat) ∧ Sat (batO us R :: Γ) L u1 := by
    intro hn u Γ' hS
    refine hS.stAll (vs := zBat) (k := 1) rfl rfl zBat_one fun u1 hS => ?_
    exact ⟨zBat, ⟨rfl, hS.ldAll (k := 1) rfl⟩, zBat, by rw [hn]; rfl, rfl, zBat_one, fun _ => rfl, (hS.weak (L' := [_, _])).any _ fun I b hb => by rw [hn] at hb; cases hb⟩
  cases F with
  | none =>
    refine ⟨fun _ => ?_, fun h => (by cases h)⟩
    exact fail hR (Γ' := [_]) hS
  | some x =>
    obtain ⟨bb, n⟩ := x
    have hn := hlen rfl
    dsimp only at hR
    refine ⟨fun hc => ?_, fun hc => ?_⟩
    · have hc : (decide ((n : Int) = 0) || !decide ((n : Int) = p.length)) = true := hc
      rw [if_neg (by simp at hc; omega)] at hR
      exact fail hR (Γ' := [_]) hS
    · have hc : (decide ((n : Int) = 0) || !decide ((n : Int) = p.length)) = false := hc
      rw [if_pos (by simp at hc; omega)] at hR
      refine ⟨_, _, ⟨rfl, rfl, hS.ldAll (k := 0) rfl⟩, ?_⟩
      refine hS.stAll (vs := [y0, y1, y2, y3, y4, y5]) (k := 1) rfl rfl hu2 fun w5 hS => ?_
      subst hR
      exact ⟨_, ⟨rfl, hS.ldAll (k := 1) rfl⟩, [y0, y1, y2, y3, y4, y5], rfl, rfl, hu2, (by intro h; cases h), hS.drop.drop⟩
end
end Go.Proofs.Yticgmchbihakkaa

namespace Go.Proofs.Yticgmchbihakkaa
open Go Go.Den
set_option maxRecDepth 100000

def lastOff (rs : List Rec) : Int := match rs.getLast? with
  | some r => r.off
  | none => 0
def gotB (off : Int) : Option Bat → List Rec × Int × Int
  | none => ([], 2, off)
  | some b => match b.recs with
    | [] => ([], 0, off)
    | r :: rs => if r.off < off then ([], 2, off) else (r :: rs, 0, IntKind.i64.wrap (lastOff (r :: rs) + 1))
def gotD (corr xc code : Int) (data : Bytes) (off : Int) : List Rec × Int × Int :=
  if corr = 0 ∨ xc ≠ corr then ([], 14, off) else if code ≠ 0 then ([], code, off) else if data.length = 0 then ([], 0, off) else gotB off (decD data)

section
variable {Γ : List PP} {L : List HP} {w : World}

theorem _root_.Go.Den.Sat.recAt (h : Sat Γ L w) {A : Option Addr} {n c : Nat} {rs : List Rec} (hm : recR.sl (.slice A n c) rs ∈ Γ) (i : Nat) (hi : i < n) :
    ∃ a r kv vv, A = some a ∧ rs[i]? = some r ∧ cellsAt w (a.add (i * 6)) 0 [vi r.off, vi r.time, .bool r.hk, kv, .bool r.hv, vv] ∧ Sat (byt kv r.key :: byt vv r.val :: Γ) L w := by
  obtain ⟨ow, h1, h2, h3⟩ := h.ex
  obtain ⟨a, r, cs, e1, e2, e3, e4⟩ := Rp.slOk.at (h2 _ hm) i hi
  obtain ⟨kv, vv, e5, hk, hv⟩ := e3
  subst e5
  refine ⟨a, r, kv, vv, e1, e2, e4, ow, h1, fun q hq => ?_, h3⟩
  rcases List.mem_cons.1 hq with rfl | hq
  · exact hk
  rcases List.mem_cons.1 hq with rfl | hq
  · exact hv
  · exact h2 q hq

set_option maxHeartbeats 400000 in
theorem c20 (h : Sat Γ L w) {k a : Nat} {t : ByteArray} {part off corr : Int} (hk : L[k]? = some (.blk a (rdC t part off corr) 137)) {xc code xo xl xg : Int} {mem lead : ByteArray} {names nums dv : Value} {data : Bytes} (hn : names.oneCell' = true) (hu : nums.oneCell' = true) (hv : byt dv data ∈ Γ) (hl : data.length ≤ 100000000000) {R : List Rec × Int × Int} (hR : R = gotD corr xc code data off) :
    Meets Try.prog 20 [ptr a, .agg (rspC xc code xo xl xg mem lead names nums dv).toArray] w fun v' w' => ∃ rv, v' = .tuple #[rv, vi R.2.1] ∧ Sat (recR.sl rv R.1 :: Γ) (L.set k (.blk a (rdC t part R.2.2 corr) 137)) w' := by
  obtain ⟨A, c, rfl, hc1, hc2⟩ := h.bytVal hv
  refine spec_of Try.func20 Try.ntmps20 Try.results20 rfl (by kernel_rfl) rfl ?_
  refine h.new fun b3 w1 hS => ?_
  have hS : Sat Γ (.blk b3 (rspC xc code xo xl xg mem lead names nums (.slice A data.length c)) 52 :: L) w1 := hS
  have hk1 : ∀ {P : HP}, (P :: L)[k + 1]? = some (.blk a (rdC t part off corr) 137) := fun {P} => hk
  have same : ∀ {u : World}, Sat Γ L u → Sat (recR.sl nilS [] :: Γ) (L.set k (.blk a (rdC t part off corr) 137)) u := fun hu => (hu.conv hk fun _ _ _ h => h).slNil recR
  unfold gotD at hR
  refine ⟨fun h => (by cases h), fun _ => ?_⟩
  have hS := hS.drew
  generalize hw2 : w1.drew = w2 at hS
  refine ⟨hs [0, 1, 2, 3, 4, 5, 6, 7, 8, 9, 10, 11, 12, 13, 14] .nil, fun u => u = w2, by kernel_rfl, by kernel_rfl, hw2, ?_⟩
  refine ⟨_, rfl, _, rfl, _, vi corr, ⟨rfl, fun u hu => by rw [hu]; exact hS.ld (k := k + 1) hk rfl⟩, _, fun _ => rfl, _, vi xc, fun _ => ⟨rfl, fun u hu => by rw [hu]; exact hS.ld (k := 0) rfl rfl⟩, _, fun _ => rfl, _, fun _ => rfl, _, vi corr, fun _ => ⟨rfl, fun u hu => by rw [hu]; exact hS.ld (k := k + 1) hk rfl⟩, ?_⟩
  rw [hw2]
  refine ⟨fun hc => ?_, fun hc => ?_⟩
  · have hc : (decide (corr = 0) || !decide (xc = corr)) = true := hc
    rw [if_pos (by simpa using hc)] at hR
    subst hR
    exact ⟨_, rfl, same hS.drop⟩
  have hc : (decide (corr = 0) || !decide (xc = corr)) = false := hc
  rw [if_neg (by simpa using hc)] at hR
  refine ⟨_, rfl, _, _, ⟨rfl, cell_of (hS.blk (k := 0) rfl) rfl⟩, ?_⟩
  refine ⟨fun hc => ?_, fun hc => ?_⟩
  · have hc : (!decide (code = 0)) = true := hc
    rw [if_pos (by simpa using hc)] at hR
    subst hR
    refine ⟨hs [0, 1, 2, 3] .nil, fun u => u = w2.drew, by kernel_rfl, by kernel_rfl, rfl, ?_⟩
    refine ⟨_, rfl, _, vi code, ⟨rfl, fun u hu => by rw [hu]; exact hS.drew.ld (k := 0) rfl rfl⟩, ?_⟩
    exact ⟨_, rfl, same hS.drew.drop⟩
  have hc : (!decide (code = 0)) = false := hc
  rw [if_neg (by simpa using hc)] at hR
  refine ⟨_, rfl, _, _, ⟨rfl, cell_of (hS.blk (k := 0) rfl) rfl⟩, ?_⟩
  refine ⟨fun hc => ?_, fun hc => ?_⟩
  · have hc : decide ((data.length : Int) = 0) = true := hc
    rw [if_pos (by simpa using hc)] at hR
    subst hR
    exact ⟨_, rfl, same hS.drop⟩
  have hc : decide ((data.length : Int) = 0) = false := hc
  rw [if_neg (by simpa using hc)] at hR
  refine ⟨_, rfl, _, _, ⟨rfl, cell_of (hS.blk (k := 0) rfl) rfl⟩, ?_⟩
  generalize hd : decD data = d at hR
  refine (c70 hS hv hl hd.symm).mono ?_
  rintro _ w3 ⟨us, rfl, hu1, hu2, hu3, hS⟩
  obtain ⟨y0, y1, y2, y3, y4, y5, rfl⟩ := six_of hu1
  refine hS.new fun b6 w4 hS => ?_
  have hS : Sat _ (.blk b6 zBat 32 :: .blk b3 (rspC xc code xo xl xg mem lead names nums (.slice A data.length c)) 52 :: L) w4 := hS
  refine hS.stAll (vs := [y0, y1, y2, y3, y4, y5]) (k := 0) rfl rfl hu2 fun w5 hS => ?_
  have hS : Sat _ (.blk b6 [y0, y1, y2, y3, y4, y5] 32 :: .blk b3 (rspC xc code xo xl xg mem lead names nums (.slice A data.length c)) 52 :: L) w5.drew := hS.drew
  cases d with
  | none =>
    have hz := hu3 rfl
    simp only [zBat, List.cons.injEq, and_true] at hz
    obtain ⟨rfl, rfl, rfl, rfl, rfl, rfl⟩ := hz
    refine ⟨hs [0, 1, 2, 3, 4, 5, 6, 7, 8, 9, 10, 11, 12, 13, 14, 15, 16, 17, 18, 19] .nil, fun u => u = w5.drew, by kernel_rfl, by kernel_rfl, rfl, ?_⟩
    refine ⟨⟨0, 0, none⟩, fun h => (by cases h), ⟨0, 0, none⟩, nilS, fun h => (by cases h), ⟨0, 0, none⟩, fun h _ => (by cases h), ⟨0, 0, none⟩, nilS, fun h _ => (by cases h), ⟨0, 0, none⟩, fun h _ => (by cases h), ⟨0, 0, none⟩, fun h _ => (by cases h), ⟨0, 0, none⟩, vi 0, fun h _ => (by cases h), ⟨0, 0, none⟩, fun h _ => (by cases h), ⟨0, 0, none⟩, fun h _ => (by cases h), ⟨0, 0, none⟩, vi 0, fun h _ => (by cases h), ?_⟩
    refine ⟨fun _ => ?_, fun h => (by cases h)⟩
    subst hR
    exact ⟨_, rfl, same (hS.tail.drop.drop)⟩
  | some b =>
    obtain ⟨rv, e, hS⟩ := hS.batO (b := b) mh
    simp only [List.cons.injEq, and_true] at e
    obtain ⟨rfl, rfl, rfl, rfl, rfl, rfl⟩ := e
    obtain ⟨Ar, cr, rfl, hr1, hr2, hr3⟩ := hS.slVal mh
    simp only [maxLen] at hr2
    unfold gotB at hR
    dsimp only at hR
    have hrest : ∀ {p1 p2 : PP} {u : World}, Sat (recR.sl (.slice Ar b.recs.length cr) b.recs :: p1 :: p2 :: Γ) (.blk b6 [vi b.base, vi b.last, vi b.prod, vi b.epoch, vi b.seq, .slice Ar b.recs.length cr] 32 :: .blk b3 (rspC xc code xo xl xg mem lead names nums (.slice A data.length c)) 52 :: L) u → Sat (recR.sl (.slice Ar b.recs.length cr) b.recs :: Γ) L u := fun {p1 p2 u} hu => hu.keep.keep.drop.drop
    cases hrs : b.recs with
    | nil =>
      rw [hrs] at hS hR hrest
      simp only [List.length_nil] at hS hrest
      dsimp only at hR
      refine ⟨hs [0, 1, 2, 3, 4, 5, 6, 7, 8, 9, 10, 11, 12, 13, 14, 15, 16, 17, 18, 19] .nil, fun u => u = w5.drew, by kernel_rfl, by kernel_rfl, rfl, ?_⟩
      refine ⟨_, fun _ => rfl, _, .slice Ar 0 cr, fun _ => ⟨rfl, fun u hu => by rw [hu]; exact hS.ld (k := 0) rfl rfl⟩, ⟨0, 0, none⟩, fun _ h => (by cases h), ⟨0, 0, none⟩, nilS, fun _ h => (by cases h), ⟨0, 0, none⟩, fun _ h => (by cases h), ⟨0, 0, none⟩, fun _ h => (by cases h), ⟨0, 0, none⟩, vi 0, fun _ h => (by cases h), ⟨0, 0, none⟩, fun _ h => (by cases h), ⟨0, 0, none⟩, fun _ h => (by cases h), ⟨0, 0, none⟩, vi 0, fun _ h => (by cases h), ?_⟩
      refine ⟨fun h => (by cases h), fun _ => ?_⟩
      refine ⟨_, rfl, _, _, ⟨rfl, cell_of (hS.blk (k := 0) rfl) rfl⟩, ?_⟩
      refine ⟨fun h => (by cases h), fun _ => ?_⟩
      refine ⟨_, rfl, _, _, ⟨rfl, cell_of (hS.blk (k := 0) rfl) rfl⟩, ?_⟩
      subst hR
      exact ⟨_, rfl, (hrest hS).conv hk fun _ _ _ h => h⟩
    | cons r rs =>
      rw [hrs] at hS hR hrest hr1
      dsimp only at hR
      obtain ⟨a0, r0, kv, vv, rfl, hr0, hcs, hS1⟩ := hS.recAt mh 0 (by simp)
      have hr0 : r = r0 := by simpa using hr0
      subst hr0
      have hlen : (r :: rs).length = rs.length + 1 := rfl
      refine ⟨hs [0, 1, 2, 3, 4, 5, 6, 7, 8, 9, 10, 11, 12, 13, 14, 15, 16, 17, 18, 19] .nil, fun u => u = w5.drew, by kernel_rfl, by kernel_rfl, rfl, ?_⟩
      refine ⟨_, fun _ => rfl, _, .slice (some a0) (r :: rs).length cr, fun _ => ⟨rfl, fun u hu => by rw [hu]; exact hS.ld (k := 0) rfl rfl⟩, _, fun _ _ => rfl, _, .slice (some a0) (r :: rs).length cr, fun _ _ => ⟨rfl, fun u hu => by rw [hu]; exact hS.ld (k := 0) rfl rfl⟩, a0, fun _ _ => ⟨rfl, by decide, by rw [hlen]; omega⟩, _, fun _ _ => rfl, _, vi r.off, fun _ _ => ⟨rfl, fun u hu => by rw [hu]; exact cellsAt_get hcs (i := 0) rfl⟩, _, fun _ _ => rfl, _, fun _ _ => rfl, _, vi off, fun _ _ => ⟨rfl, fun u hu => by rw [hu]; exact hS.ld (k := k + 2) hk rfl⟩, ?_⟩
      have hpos : decide ((0 : Int) < ((r :: rs).length : Nat)) = true := by rw [hlen]; simp
      refine ⟨fun hc => ?_, fun hc => ?_⟩
      · have hc : (decide ((0 : Int) < ((r :: rs).length : Nat)) && decide (r.off < off)) = true := hc
        rw [hpos, Bool.true_and] at hc
        rw [if_pos (of_decide_eq_true hc)] at hR
        subst hR
        exact ⟨_, rfl, same (hS.weak (Γ' := [_, _, _]) (L' := [_, _]))⟩
      have hc : (decide ((0 : Int) < ((r :: rs).length : Nat)) && decide (r.off < off)) = false := hc
      rw [hpos, Bool.true_and] at hc
      rw [if_neg (of_decide_eq_false hc)] at hR
      refine ⟨_, rfl, _, _, ⟨rfl, cell_of (hS.blk (k := 0) rfl) rfl⟩, ?_⟩
      refine ⟨fun _ => ?_, fun h => ?_⟩
      · have em : IntKind.i64.wrap (((r :: rs).length : Nat) - 1 : Int) = (((r :: rs).length : Nat) : Int) - 1 := w64 (by have hm := Nat.le_trans hr1 hr2; rw [hlen] at hm ⊢; omega)
        have emn : (IntKind.i64.wrap (((r :: rs).length : Nat) - 1 : Int)).toNat = rs.length := by rw [em, hlen]; omega
        obtain ⟨a1, r1, kv1, vv1, e1, hr1', hcs1, _⟩ := hS.recAt mh rs.length (by rw [hlen]; omega)
        have e1 : a0 = a1 := Option.some.inj e1
        subst e1
        have hlo : lastOff (r :: rs) = r1.off := by
          unfold lastOff
          rw [List.getLast?_eq_getElem?, hlen, Nat.add_sub_cancel, hr1']
        refine ⟨_, rfl, _, _, ⟨rfl, cell_of (hS.blk (k := 0) rfl) rfl⟩, a0, ⟨rfl, ?_, ?_⟩, _, rfl, _, vi r1.off, ⟨rfl, ?_⟩, _, rfl, _, rfl, ?_⟩
        · show 0 ≤ IntKind.i64.wrap (((r :: rs).length : Nat) - 1 : Int)
          rw [em, hlen]; omega
        · show IntKind.i64.wrap (((r :: rs).length : Nat) - 1 : Int) < _
          rw [em]; omega
        · show w5.drew.cell? ((a0.add ((IntKind.i64.wrap (((r :: rs).length : Nat) - 1 : Int)).toNat * 6)).add 0) = _
          rw [emn]
          exact cellsAt_get hcs1 (i := 0) rfl
        refine hS.st (k := k + 2) (i := 2) hk (by simp) rfl fun w6 hS => ?_
        refine ⟨_, rfl, _, _, ⟨rfl, cell_of (hS.blk (k := 0) rfl) rfl⟩, ?_⟩
        subst hR
        rw [hlo]
        exact ⟨_, rfl, hS.keep.keep.drop.drop⟩
      · have h : decide ((0 : Int) < ((r :: rs).length : Nat)) = false := h
        rw [hpos] at h; cases h
end
end Go.Proofs.Yticgmchbihakkaa

namespace Go.Proofs.Yticgmchbihakkaa
open Go Go.Den
set_option maxRecDepth 100000

abbrev recC (r : Rec) (kv vv : Value) : List Value := [vi r.off, vi r.time, .bool r.hk, kv, .bool r.hv, vv]
def sameR (a b : Rec) : Bool := decide (a.off = b.off) && decide (a.time = b.time) && decide (a.hk = b.hk) && decide (a.hv = b.hv) && decide (strB a.key = strB b.key) && decide (strB a.val = strB b.val)

section
variable {Γ : List PP} {L : List HP} {w : World}

theorem c71 (h : Sat Γ L w) {a b : Rec} {ka va kb vb : Value} (hka : byt ka a.key ∈ Γ) (hva : byt va a.val ∈ Γ) (hkb : byt kb b.key ∈ Γ) (hvb : byt vb b.val ∈ Γ) :
    Meets Try.prog 71 [.agg (recC a ka va).toArray, .agg (recC b kb vb).toArray] w fun v' w' => v' = .bool (sameR a b) ∧ Sat Γ L w' := by
  obtain ⟨Ka, ca, rfl, _⟩ := h.bytVal hka
  obtain ⟨Va, da, rfl, _⟩ := h.bytVal hva
  obtain ⟨Kb, cb, rfl, _⟩ := h.bytVal hkb
  obtain ⟨Vb, db, rfl, _⟩ := h.bytVal hvb
  refine spec_of Try.func71 Try.ntmps71 Try.results71 rfl (by kernel_rfl) rfl ?_
  refine h.new fun b2 w1 hS => ?_
  have hS : Sat Γ (.blk b2 (recC a (.slice Ka a.key.length ca) (.slice Va a.val.length da)) 47 :: L) w1 := hS
  refine hS.new fun b3 w2 hS => ?_
  have hS : Sat Γ (.blk b3 (recC b (.slice Kb b.key.length cb) (.slice Vb b.val.length db)) 47 :: .blk b2 (recC a (.slice Ka a.key.length ca) (.slice Va a.val.length da)) 47 :: L) w2 := hS
  refine ⟨_, rfl, _, _, ⟨rfl, cell_of (hS.blk (k := 1) rfl) rfl⟩, ?_⟩
  refine ⟨_, rfl, _, _, ⟨rfl, cell_of (hS.blk (k := 0) rfl) rfl⟩, ?_⟩
  refine ⟨_, fun _ => rfl, _, _, fun _ => ⟨rfl, cell_of (hS.blk (k := 1) rfl) rfl⟩, ?_⟩
  refine ⟨_, fun _ => rfl, _, _, fun _ => ⟨rfl, cell_of (hS.blk (k := 0) rfl) rfl⟩, ?_⟩
  refine ⟨_, fun _ => rfl, _, _, fun _ => ⟨rfl, cell_of (hS.blk (k := 1) rfl) rfl⟩, ?_⟩
  refine ⟨_, fun _ => rfl, _, _, fun _ => ⟨rfl, cell_of (hS.blk (k := 0) rfl) rfl⟩, ?_⟩
  refine ⟨_, fun _ => rfl, _, _, fun _ => ⟨rfl, cell_of (hS.blk (k := 1) rfl) rfl⟩, ?_⟩
  refine ⟨_, fun _ => rfl, _, _, fun _ => ⟨rfl, cell_of (hS.blk (k := 0) rfl) rfl⟩, ?_⟩
  refine ⟨_, fun _ => rfl, _, _, fun _ => ⟨rfl, cell_of (hS.blk (k := 1) rfl) rfl⟩, ?_⟩
  refine Or.inr ⟨_, fun _ => ⟨_, _, hS.str hka, rfl, rfl⟩, ?_⟩
  refine ⟨_, fun _ => rfl, _, _, fun _ => ⟨rfl, cell_of (hS.blk (k := 0) rfl) rfl⟩, ?_⟩
  refine Or.inr ⟨_, fun _ => ⟨_, _, hS.str hkb, rfl, rfl⟩, ?_⟩
  refine ⟨_, fun _ => rfl, _, _, fun _ => ⟨rfl, cell_of (hS.blk (k := 1) rfl) rfl⟩, ?_⟩
  refine Or.inr ⟨_, fun _ => ⟨_, _, hS.str hva, rfl, rfl⟩, ?_⟩
  refine ⟨_, fun _ => rfl, _, _, fun _ => ⟨rfl, cell_of (hS.blk (k := 0) rfl) rfl⟩, ?_⟩
  refine Or.inr ⟨_, fun _ => ⟨_, _, hS.str hvb, rfl, rfl⟩, ?_⟩
  exact ⟨rfl, hS.drop.drop⟩
theorem sameR_iff {a b : Rec} : sameR a b = true ↔ a = b := by
  unfold sameR
  simp only [Bool.and_eq_true, decide_eq_true_eq]
  constructor
  · rintro ⟨⟨⟨⟨⟨h1, h2⟩, h3⟩, h4⟩, h5⟩, h6⟩
    have h5 := strB_inj h5
    have h6 := strB_inj h6
    cases a; cases b; simp_all
  · rintro rfl; simp

theorem c22 (h : Sat Γ L w) {va vb : Value} {ps qs : List Rec} (ha : recR.sl va ps ∈ Γ) (hb : recR.sl vb qs ∈ Γ) :
    Meets Try.prog 22 [va, vb] w fun v' w' => ∃ r : Bool, v' = .bool r ∧ (r = true ↔ ps = qs) ∧ Sat Γ L w' := by
  obtain ⟨A, ca, rfl, ha1, ha2, ha3⟩ := h.slVal ha
  obtain ⟨B, cb, rfl, hb1, hb2, hb3⟩ := h.slVal hb
  simp only [maxLen] at ha2 hb2
  refine spec_of Try.func22 Try.ntmps22 Try.results22 rfl (by kernel_rfl) rfl ?_
  refine ⟨fun hc => ?_, fun hc => ?_⟩
  · have hc : (!decide ((ps.length : Int) = qs.length)) = true := hc
    refine ⟨false, rfl, ⟨fun h => (by cases h), fun h => ?_⟩, h⟩
    subst h; simp at hc
  have hc : (!decide ((ps.length : Int) = qs.length)) = false := hc
  have hc : ps.length = qs.length := by simp at hc; omega
  refine ⟨[4, 5], by kernel_rfl, fun vs w' => ∃ i : Nat, vs = [.bool false, vi i] ∧ i ≤ ps.length ∧ ps.take i = qs.take i ∧ Sat Γ L w', fun vs _ => match vs with | [_, .int _ j] => (ps.length - j).toNat | _ => 0, ⟨0, rfl, Nat.zero_le _, rfl, h⟩, ?_⟩
  rintro _ w2 ⟨i, rfl, hi, he, hS⟩
  refine ⟨rfl, ?_⟩
  refine ⟨fun hlt => ?_, fun hlt => ?_⟩
  · have hlt : i < ps.length := by
      have h : decide ((i : Int) < ps.length) = true := hlt
      have := of_decide_eq_true h; omega
    have hS := hS.drew
    obtain ⟨a0, ra, kva, vva, rfl, hra, hca, hS1⟩ := hS.recAt ha i hlt
    obtain ⟨b0, rb, kvb, vvb, rfl, hrb, hcb, hS2⟩ := hS1.recAt (mt (mt hb)) i (by omega)
    refine ⟨hs [0, 1, 2, 3, 4, 5, 6, 7] (.one 8 false (hs [9] .nil)), fun u => u = w2.drew, by kernel_rfl, by kernel_rfl, rfl, ?_⟩
    refine ⟨a0, ⟨rfl, by omega, by omega⟩, ?_⟩
    refine ⟨_, recC ra kva vva, ⟨rfl, rfl, fun u hu => by rw [hu]; exact hca⟩, b0, ⟨rfl, by omega, by omega⟩, _, recC rb kvb vvb, ⟨rfl, rfl, fun u hu => by rw [hu]; exact hcb⟩, ?_⟩
    refine (c71 hS2 (mt (mt mh)) (mt (mt (mt mh))) mh (mt mh)).mono ?_
    rintro _ w3 ⟨rfl, hS⟩
    have hS := hS.weak (Γ' := [_, _, _, _]) (L' := [])
    refine ⟨fun hr => ?_, fun hr => ?_⟩
    · have hr : (!sameR ra rb) = true := hr
      refine ⟨false, rfl, ⟨fun h => (by cases h), fun h => ?_⟩, hS⟩
      subst h
      rw [hra] at hrb; cases hrb
      rw [sameR_iff.2 rfl] at hr; cases hr
    · have hr : (!sameR ra rb) = false := hr
      have hr : ra = rb := sameR_iff.1 (by simpa using hr)
      have ei : IntKind.i64.wrap ((i : Int) + 1) = ((i + 1 : Nat) : Int) := w64 (by omega)
      refine ⟨⟨i + 1, ?_, hlt, ?_, hS⟩, ?_⟩
      · show [_, vi (IntKind.i64.wrap ((i : Int) + 1))] = _
        rw [ei]
      · rw [List.take_add_one, List.take_add_one, he, hra, hrb, hr]
      · show (ps.length - IntKind.i64.wrap ((i : Int) + 1)).toNat < (ps.length - (i : Int)).toNat
        rw [ei]; omega
  · have hlt : ¬ i < ps.length := by
      have h : decide ((i : Int) < ps.length) = false := hlt
      have := of_decide_eq_false h; omega
    refine ⟨true, rfl, ⟨fun _ => ?_, fun _ => rfl⟩, hS⟩
    rw [List.take_of_length_le (by omega), List.take_of_length_le (by omega)] at he
    exact he
end
end Go.Proofs.Yticgmchbihakkaa

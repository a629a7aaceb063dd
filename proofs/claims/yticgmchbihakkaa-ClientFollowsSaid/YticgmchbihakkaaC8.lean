/- The document's reading of batches: readRecord. -/
import Derived.Test.YticgmchbihakkaaC7
set_option linter.unusedVariables false
set_option linter.unusedSimpArgs false
namespace Go.Proofs.Yticgmchbihakkaa
open Go Go.Den
set_option maxRecDepth 100000

def optD (p : Bytes) : Option (Bool × Bytes × Bytes) :=
  match getN p with
  | none => none
  | some (n, m) => if n < -1 ∨ ((p.length - m : Nat) : Int) < n then none else if n < 0 then some (false, [], p.drop m) else some (true, (p.drop m).take n.toNat, (p.drop m).drop n.toNat)
def fldS (i : Nat) (rc : Rec) (b : Bytes) : Rec := if i = 0 then { rc with hk := true, key := b } else { rc with hv := true, val := b }
def fld : Nat → Nat → Bytes → Rec → Option Rec
  | 0, _, p, rc => if p = [] then some rc else none
  | n + 1, i, p, rc => match optD p with
    | none => none
    | some (h, b, q) => fld n (i + 1) q (if h then fldS i rc b else rc)
def rrD (p : Bytes) (first base : Int) : Option Rec :=
  match getN p with
  | none => none
  | some (t, k) => match getN (p.drop k) with
    | none => none
    | some (o, j) => if t < -1125899906842624 ∨ 1125899906842624 < t ∨ o < 0 ∨ 4611686018427387904 < o then none else fld 2 0 (p.drop (k + j)) ⟨IntKind.i64.wrap (base + o), IntKind.i64.wrap (first + t), false, [], false, []⟩

section
variable {Γ : List PP} {L : List HP} {w : World}

set_option maxHeartbeats 400000 in
theorem c121 (h : Sat Γ L w) {v : Value} {p : Bytes} (hv : byt v p ∈ Γ) (hl : p.length ≤ 100000000000) (first base : Int) {R : Option Rec} (hR : R = rrD p first base) :
    Meets Try.prog 121 [v, vi first, vi base] w fun v' w' => ∃ us : List Value, v' = .tuple #[.agg us.toArray, .bool R.isSome] ∧ us.length = 6 ∧ (∀ u ∈ us, u.oneCell' = true) ∧ Sat (recO us R :: Γ) L w' := by
  obtain ⟨A, c, rfl, hc1, hc2⟩ := h.bytVal hv
  simp only [maxLen] at hc2
  refine spec_join Try.func121 Try.ntmps121 Try.results121 rfl (by kernel_rfl) rfl (J := [91]) ?_
  refine h.new fun b6 w1 hS => ?_
  have hS : Sat Γ (.blk b6 zRec 47 :: L) w1 := hS
  have fin : ∀ {Γ' : List PP} {L' : List HP} {u : World}, R = none → Sat (Γ' ++ Γ) (L' ++ .blk b6 zRec 47 :: L) u → Sat (recO zRec R :: Γ) L u := fun hn hu =>
    (hu.weak.drop).any _ fun I b hb => by rw [hn] at hb; cases hb
  have out : ∀ {u : World} {k : Nat} {Γ' : List PP} {L' : List HP}, R = none → k = L'.length → Sat (Γ' ++ Γ) (L' ++ .blk b6 zRec 47 :: L) u →
      wrAt u ⟨b6, 0, none⟩ 0 zRec ∧ ∀ u1, u1 = setCells u ⟨b6, 0, none⟩ 0 zRec → ∃ vs : List Value, (vs.length = 6 ∧ cellsAt u1 ⟨b6, 0, none⟩ 0 vs) ∧ ∃ us : List Value, Value.tuple #[.agg vs.toArray, .bool false] = .tuple #[.agg us.toArray, .bool R.isSome] ∧ us.length = 6 ∧ (∀ u ∈ us, u.oneCell' = true) ∧ Sat (recO us R :: Γ) L u1 := by
    intro u k Γ' L' hn hk hS
    have hg : (L' ++ HP.blk b6 zRec 47 :: L)[k]? = some (.blk b6 zRec 47) := by subst hk; simp
    refine hS.stAll (vs := zRec) (k := k) hg rfl zRec_one fun u1 hS => ?_
    have he : (L' ++ HP.blk b6 zRec 47 :: L).set k (.blk b6 zRec 47) = L' ++ .blk b6 zRec 47 :: L := by subst hk; simp
    rw [he] at hS
    refine ⟨zRec, ⟨rfl, hS.ldAll hg⟩, zRec, by rw [hn]; rfl, rfl, zRec_one, fin hn hS⟩
  refine (c95 hS hv).mono ?_
  rintro _ w2 ⟨rfl, rfl⟩
  have hsp := @getN_spec p
  unfold rrD at hR
  unfold getV'
  cases hg : getN p with
  | none =>
    rw [hg] at hR
    refine ⟨fun _ => ?_, fun h => by cases h⟩
    exact out (k := 0) (Γ' := []) (L' := []) hR rfl hS
  | some x =>
  obtain ⟨t, k⟩ := x
  obtain ⟨k1, k2, k3⟩ := hsp hg
  rw [hg] at hR
  dsimp only at hR
  refine ⟨fun h => ?_, fun _ => ?_⟩
  · have h : decide ((k : Int) = 0) = true := h
    simp at h; omega
  unfold i64R at k3
  have hS2 := hS.bytFrom hv k k2
  refine ⟨⟨Int.natCast_nonneg _, by omega⟩, ?_⟩
  rintro _ rfl
  refine (c95 hS2 mh).mono ?_
  rintro _ w2 ⟨rfl, rfl⟩
  have hsp2 := @getN_spec (p.drop k)
  unfold getV'
  cases hg2 : getN (p.drop k) with
  | none =>
    rw [hg2] at hR
    refine ⟨fun _ => ?_, fun h => by cases h⟩
    exact out (k := 0) (Γ' := []) (L' := []) hR rfl hS
  | some x =>
  obtain ⟨o, j⟩ := x
  obtain ⟨j1, j2, j3⟩ := hsp2 hg2
  rw [hg2] at hR
  dsimp only at hR
  unfold i64R at j3
  rw [List.length_drop] at j2
  refine ⟨fun h => ?_, fun _ => ?_⟩
  · have h : decide ((j : Int) = 0) = true := h
    simp at h; omega
  have ekj : IntKind.i64.wrap ((k : Int) + j) = ((k + j : Nat) : Int) := by rw [w64 (by omega)]; omega
  refine ⟨⟨?_, ?_⟩, ?_⟩
  · show 0 ≤ IntKind.i64.wrap ((k : Int) + j)
    rw [ekj]; omega
  · show IntKind.i64.wrap ((k : Int) + j) ≤ _
    rw [ekj]; omega
  rintro _ rfl
  have hS3 := hS.bytFrom hv (IntKind.i64.wrap ((k : Int) + j)).toNat (by rw [ekj]; omega)
  have eN : (IntKind.i64.wrap ((k : Int) + j)).toNat = k + j := by rw [ekj]; omega
  refine ⟨fun hc => ?_, fun hc => ?_⟩
  · have hc : (((decide (t < -1125899906842624) || decide (1125899906842624 < t)) || decide (o < 0)) || decide (4611686018427387904 < o)) = true := hc
    rw [if_pos (by simp at hc; omega)] at hR
    exact out (k := 0) (Γ' := []) (L' := []) hR rfl hS
  have hc : (((decide (t < -1125899906842624) || decide (1125899906842624 < t)) || decide (o < 0)) || decide (4611686018427387904 < o)) = false := hc
  rw [if_neg (by simp at hc; omega)] at hR
  refine hS3.new fun b12 w3 hS => ?_
  have hS : Sat _ (.blk b12 [vi 0, vi 0, .bool false, .slice none 0 0, .bool false, .slice none 0 0] 47 :: .blk b6 zRec 47 :: L) w3 := hS
  refine hS.stAll (vs := [vi (IntKind.i64.wrap (base + o)), vi (IntKind.i64.wrap (first + t)), .bool false, .slice none 0 0, .bool false, .slice none 0 0]) (k := 0) rfl rfl (by intro u hu; simp at hu; rcases hu with rfl | rfl | rfl | rfl | rfl | rfl <;> rfl) fun w4 hS => ?_
  generalize hp3 : Value.slice (if c = (IntKind.i64.wrap ((k : Int) + j)).toNat then A else A.map (·.add ((IntKind.i64.wrap ((k : Int) + j)).toNat * 1))) (p.length - (IntKind.i64.wrap ((k : Int) + j)).toNat) (c - (IntKind.i64.wrap ((k : Int) + j)).toNat) = p3 at hS
  rw [eN] at hS
  refine ⟨[7, 0, 13], by kernel_rfl, fun vs w' => ∃ (i : Nat) (pv : Value) (ps : Bytes) (rc : Rec) (kv vv : Value), vs = [.bool false, pv, vi i] ∧ i ≤ 2 ∧ ps.length ≤ p.length ∧ Sat (byt pv ps :: byt kv rc.key :: byt vv rc.val :: Γ) (.blk b12 [vi rc.off, vi rc.time, .bool rc.hk, kv, .bool rc.hv, vv] 47 :: .blk b6 zRec 47 :: L) w' ∧ R = fld (2 - i) i ps rc,
    fun vs _ => match vs with | [_, _, .int _ i] => (2 - i).toNat | _ => 0, ?_, ?_⟩
  · exact ⟨0, p3, p.drop (k + j), ⟨IntKind.i64.wrap (base + o), IntKind.i64.wrap (first + t), false, [], false, []⟩, .slice none 0 0, .slice none 0 0, by rw [← hp3]; rfl, by omega, by simp, (hS.bytNil.bytNil).sub (by
      intro q hq
      rcases List.mem_cons.1 hq with rfl | hq
      · exact mt (mt mh)
      rcases List.mem_cons.1 hq with rfl | hq
      · exact mh
      rcases List.mem_cons.1 hq with rfl | hq
      · exact mh
      exact mt (mt (mt hq))), hR⟩
  clear hp3
  rintro _ w5 ⟨i, pv, ps, rc, kv, vv, rfl, hi, hpl, hS, hR⟩
  obtain ⟨A5, c5, rfl, hc5, hc6⟩ := hS.bytVal mh
  simp only [maxLen] at hc6
  refine ⟨rfl, fun hlt => ?_, fun hlt => ?_⟩
  · have hlt : i < 2 := by have := of_decide_eq_true hlt; omega
    rw [show 2 - i = (2 - (i + 1)) + 1 by omega, fld] at hR
    refine (c95 hS mh).mono ?_
    rintro _ w5 ⟨rfl, rfl⟩
    have hsp4 := @getN_spec ps
    unfold optD at hR
    unfold getV'
    cases hg4 : getN ps with
    | none =>
      rw [hg4] at hR
      refine ⟨fun _ => ?_, fun h => by cases h⟩
      exact out (k := 1) (Γ' := [_, _, _]) (L' := [_]) hR rfl hS
    | some x =>
    obtain ⟨n, m⟩ := x
    obtain ⟨m1, m2, m3⟩ := hsp4 hg4
    rw [hg4] at hR
    dsimp only at hR
    unfold i64R at m3
    have e1 : IntKind.i64.wrap ((ps.length : Int) - m) = ((ps.length - m : Nat) : Int) := by rw [w64 (by omega)]; omega
    refine ⟨fun hc => ?_, fun hc => ?_⟩
    · have hc : ((decide ((m : Int) = 0) || decide (n < -1)) || decide (IntKind.i64.wrap ((ps.length : Int) - m) < n)) = true := hc
      rw [e1] at hc
      rw [if_pos (by simp at hc; omega)] at hR
      exact out (k := 1) (Γ' := [_, _, _]) (L' := [_]) hR rfl hS
    have hc : ((decide ((m : Int) = 0) || decide (n < -1)) || decide (IntKind.i64.wrap ((ps.length : Int) - m) < n)) = false := hc
    rw [e1] at hc
    rw [if_neg (by simp at hc; omega)] at hR
    have hc : ¬ n < -1 ∧ ¬ ((ps.length - m : Nat) : Int) < n := by simp at hc; omega
    refine ⟨⟨Int.natCast_nonneg _, by omega⟩, ?_⟩
    intro A6 hA6
    have hS := hS.bytFrom mh m m2
    rw [← (show A6 = (if c5 = m then A5 else A5.map (·.add (m * 1))) from hA6)] at hS
    clear hA6
    have ei : IntKind.i64.wrap ((i : Int) + 1) = ((i + 1 : Nat) : Int) := by rw [w64 (by omega)]; rfl
    have hdl : (ps.drop m).length = ps.length - m := by simp
    refine ⟨fun hn => ?_, fun hn => ?_⟩
    · have hn : n < 0 := of_decide_eq_true hn
      rw [if_pos hn] at hR
      refine ⟨⟨i + 1, _, ps.drop m, rc, kv, vv, ?_, by omega, by omega, hS.sub (by
        intro q hq
        rcases List.mem_cons.1 hq with rfl | hq
        · exact mh
        · exact mt (mt hq)), hR⟩, ?_⟩
      · show [_, _, vi (IntKind.i64.wrap ((i : Int) + 1))] = _
        rw [ei]; rfl
      · show ((2 : Int) - IntKind.i64.wrap ((i : Int) + 1)).toNat < ((2 : Int) - i).toNat
        rw [ei]; omega
    have hn : ¬ n < 0 := of_decide_eq_false hn
    rw [if_neg hn] at hR
    have hR : R = fld (2 - (i + 1)) (i + 1) ((ps.drop m).drop n.toNat) (fldS i rc ((ps.drop m).take n.toNat)) := hR
    have hb1 : ∀ b : Bool, (Value.bool b).oneCell' = true := fun _ => rfl
    refine ⟨[], fun vs w' => vs = [] ∧ ∃ kv' vv', Sat (byt (.slice A6 (ps.length - m) (c5 - m)) (ps.drop m) :: byt kv' (fldS i rc ((ps.drop m).take n.toNat)).key :: byt vv' (fldS i rc ((ps.drop m).take n.toNat)).val :: Γ) (.blk b12 [vi (fldS i rc ((ps.drop m).take n.toNat)).off, vi (fldS i rc ((ps.drop m).take n.toNat)).time, .bool (fldS i rc ((ps.drop m).take n.toNat)).hk, kv', .bool (fldS i rc ((ps.drop m).take n.toNat)).hv, vv'] 47 :: .blk b6 zRec 47 :: L) w', by kernel_rfl, fun h0 => ?_, fun h0 => ?_, ?_⟩
    · have h0 : i = 0 := by have := of_decide_eq_true h0; omega
      have hf : fldS i rc ((ps.drop m).take n.toNat) = { rc with hk := true, key := (ps.drop m).take n.toNat } := if_pos h0
      rw [hf]
      refine ⟨_, rfl, hS.st (k := 0) (i := 2) rfl (by simp) rfl fun w6 hS => ?_⟩
      refine hS.new fun b7 w7 hS => ?_
      have hS : Sat _ (.blk b7 [] 5 :: .blk b12 [vi rc.off, vi rc.time, .bool true, kv, .bool rc.hv, vv] 47 :: .blk b6 zRec 47 :: L) w7 := hS
      have hS := hS.bytOwn
      have hS := hS.bytUpto mh n.toNat (by omega)
      refine ⟨⟨by omega, by omega⟩, ?_⟩
      refine hS.apBytes (k := 0) rfl mh (by simp; omega) fun A7 c7 w8 hS => ?_
      refine ⟨_, rfl, hS.st (k := 1) (i := 3) rfl (by simp) rfl fun w9 hS => ?_⟩
      have hS := hS.bytFreeze (k := 0) rfl
      refine ⟨rfl, _, vv, (hS.sub (by
        intro q hq
        rcases List.mem_cons.1 hq with rfl | hq
        · exact mt (mt mh)
        rcases List.mem_cons.1 hq with rfl | hq
        · exact mh
        rcases List.mem_cons.1 hq with rfl | hq
        · exact mt (mt (mt (mt (mt mh))))
        · exact mt (mt (mt (mt (mt (mt hq))))))).drop⟩
    · have h0 : i ≠ 0 := by have := of_decide_eq_false h0; omega
      have hf : fldS i rc ((ps.drop m).take n.toNat) = { rc with hv := true, val := (ps.drop m).take n.toNat } := if_neg h0
      rw [hf]
      refine ⟨_, rfl, hS.st (k := 0) (i := 4) rfl (by simp) rfl fun w6 hS => ?_⟩
      refine hS.new fun b7 w7 hS => ?_
      have hS : Sat _ (.blk b7 [] 5 :: .blk b12 [vi rc.off, vi rc.time, .bool rc.hk, kv, .bool true, vv] 47 :: .blk b6 zRec 47 :: L) w7 := hS
      have hS := hS.bytOwn
      have hS := hS.bytUpto mh n.toNat (by omega)
      refine ⟨⟨by omega, by omega⟩, ?_⟩
      refine hS.apBytes (k := 0) rfl mh (by simp; omega) fun A7 c7 w8 hS => ?_
      refine ⟨_, rfl, hS.st (k := 1) (i := 5) rfl (by simp) rfl fun w9 hS => ?_⟩
      have hS := hS.bytFreeze (k := 0) rfl
      refine ⟨rfl, kv, _, (hS.sub (by
        intro q hq
        rcases List.mem_cons.1 hq with rfl | hq
        · exact mt (mt mh)
        rcases List.mem_cons.1 hq with rfl | hq
        · exact mt (mt (mt (mt mh)))
        rcases List.mem_cons.1 hq with rfl | hq
        · exact mh
        · exact mt (mt (mt (mt (mt (mt hq))))))).drop⟩
    rintro _ w6 ⟨rfl, kv', vv', hS⟩
    refine ⟨rfl, ?_⟩
    generalize fldS i rc ((ps.drop m).take n.toNat) = rc' at hS hR
    have hS := hS.bytFrom mh n.toNat (by omega)
    refine ⟨⟨by omega, by omega⟩, ?_⟩
    intro A8 hA8
    rw [← (show A8 = (if c5 - m = n.toNat then A6 else A6.map (·.add (n.toNat * 1))) from hA8)] at hS
    clear hA8
    refine ⟨⟨i + 1, _, _, rc', kv', vv', ?_, by omega, by simp; omega, hS.sub (by
        intro q hq
        rcases List.mem_cons.1 hq with rfl | hq
        · exact mh
        · exact mt (mt hq)), hR⟩, ?_⟩
    · show [_, _, vi (IntKind.i64.wrap ((i : Int) + 1))] = _
      rw [ei]; rfl
    · show ((2 : Int) - IntKind.i64.wrap ((i : Int) + 1)).toNat < ((2 : Int) - i).toNat
      rw [ei]; omega
  · have hlt : i = 2 := by have := of_decide_eq_false hlt; omega
    subst hlt
    have hS0 := hS
    refine ⟨_, _, ⟨rfl, rfl, hS.ldAll (k := 0) rfl⟩, ?_⟩
    have hone : ∀ u ∈ [vi rc.off, vi rc.time, .bool rc.hk, kv, .bool rc.hv, vv], u.oneCell' = true := by
      obtain ⟨_, _, rfl, _⟩ := hS.bytVal (mt mh)
      obtain ⟨_, _, rfl, _⟩ := hS.bytVal (mt (mt mh))
      intro u hu; simp at hu; rcases hu with rfl | rfl | rfl | rfl | rfl | rfl <;> rfl
    refine hS.stAll (vs := [vi rc.off, vi rc.time, .bool rc.hk, kv, .bool rc.hv, vv]) (k := 1) rfl rfl hone fun w6 hS => ?_
    refine ⟨_, ⟨rfl, hS.ldAll (k := 1) rfl⟩, [vi rc.off, vi rc.time, .bool rc.hk, kv, .bool rc.hv, vv], ?_, rfl, hone, ?_⟩
    · have : (decide ((ps.length : Int) = 0)) = R.isSome := by
        rw [hR]
        show _ = (if ps = [] then some rc else none : Option Rec).isSome
        cases ps with
        | nil => rfl
        | cons a l =>
          rw [if_neg (by simp)]
          simp
          omega
      show Value.tuple #[_, .bool (decide ((ps.length : Int) = 0))] = _
      rw [this]
    · have hS := hS.addp (p := recO [vi rc.off, vi rc.time, .bool rc.hk, kv, .bool rc.hv, vv] R) fun I _ hq b hb => by
        have hb : (if ps = [] then some rc else none) = some b := hR.symm.trans hb
        split at hb
        · cases hb
          exact ⟨kv, vv, rfl, hq _ (mt mh), hq _ (mt (mt mh))⟩
        · cases hb
      exact (hS.sub (Γ' := _ :: Γ) fun q hq => by
        rcases List.mem_cons.1 hq with rfl | hq
        · exact mh
        · exact mt (mt (mt (mt hq)))).drop.drop
end
end Go.Proofs.Yticgmchbihakkaa

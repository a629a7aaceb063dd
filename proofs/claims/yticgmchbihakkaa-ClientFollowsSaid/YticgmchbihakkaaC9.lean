/- The document's reading of batches: First. -/
import Derived.Test.YticgmchbihakkaaC8
set_option linter.unusedVariables false
set_option linter.unusedSimpArgs false
namespace Go.Proofs.Yticgmchbihakkaa
open Go Go.Den
set_option maxRecDepth 100000

def fx (p : Bytes) (lo hi : Nat) : Int := IntKind.i64.wrap (beN ((p.drop lo).take (hi - lo)))
def rRecs (first base : Int) : Nat → Bytes → List Rec → Option (List Rec)
  | 0, _, acc => some acc
  | n + 1, xs, acc => if (gbD xs xs.length).2.2 ≠ 0 then none else match rrD (gbD xs xs.length).1 first base with
    | none => none
    | some r => rRecs first base n (gbD xs xs.length).2.1 (acc ++ [r])
def rfBad (base last first : Int) : Bool :=
  (((((decide (base < 0) || decide (4611686018427387904 < base)) || decide (last < 0)) || decide (IntKind.i64.wrap (4611686018427387904 - base) < last)) || decide (first < 0)) || decide (1125899906842624 < first))
def rfB (q : Bytes) (rs : List Rec) : Bat := ⟨fx q 0 8, IntKind.i64.wrap (fx q 0 8 + fx q 16 24), fx q 32 40, fx q 40 42, fx q 42 46, rs⟩
def rfQ (q : Bytes) : Option Bat :=
  if rfBad (fx q 0 8) (fx q 16 24) (fx q 24 32) = true then none else
  if 100 < fx q 46 50 then none else
  match rRecs (fx q 24 32) (fx q 0 8) (fx q 46 50).toNat (q.drop 50) [] with
  | none => none
  | some rs => if chk (rfB q rs) = 0 ∧ encB (rfB q rs) = q then some (rfB q rs) else none
def rfD (p : Bytes) : Option (Bat × Nat) :=
  if p.length < 50 then none else
  if fx p 8 12 < 38 ∨ 65536 < fx p 8 12 ∨ ((p.length - 12 : Nat) : Int) < fx p 8 12 then none else
  (rfQ (p.take (12 + (fx p 8 12).toNat))).map fun b => (b, 12 + (fx p 8 12).toNat)

theorem gbD_len (xs : Bytes) (most : Int) : (gbD xs most).1.length ≤ xs.length ∧ (gbD xs most).2.1.length ≤ xs.length := by
  unfold gbD
  split
  · simp
  · split
    · simp
    · split
      · simp
      · simp; omega

section
variable {Γ : List PP} {L : List HP} {w : World}

theorem _root_.Go.Den.Sat.str (h : Sat Γ L w) {v : Value} {xs : Bytes} (hm : Yticgmchbihakkaa.byt v xs ∈ Γ) : (Go.convert 22 9 v).run Try.prog w = .ok (.string (strB xs)) w := by
  obtain ⟨G, h1⟩ := h.byt hm
  exact str_run h1
/-- GetFixed of a part. -/
theorem cfx (h : Sat Γ L w) {A : Option Addr} {n c : Nat} {xs : Bytes} (hm : byt (.slice A n c) xs ∈ Γ) (lo hi : Nat) (h1 : lo ≤ hi) (h2 : hi ≤ n) (h3 : hi - lo ≤ 8) {A' : Option Addr} (hA : A' = if c = lo then A else A.map (·.add (lo * 1))) :
    Meets Try.prog 119 [.slice A' (hi - lo) (c - lo)] w fun v' w' => v' = vi (fx xs lo hi) ∧ w' = w := by
  have hS := h.bytPart hm lo hi h1 h2
  rw [← hA] at hS
  exact c119 hS mh (by simp; omega)
theorem cfx0 (h : Sat Γ L w) {A : Option Addr} {n c : Nat} {xs : Bytes} (hm : byt (.slice A n c) xs ∈ Γ) (hi : Nat) (h2 : hi ≤ n) (h3 : hi ≤ 8) :
    Meets Try.prog 119 [.slice A hi c] w fun v' w' => v' = vi (fx xs 0 hi) ∧ w' = w :=
  c119 (h.bytUpto hm hi h2) mh (by simp; omega)

def zBat : List Value := [vi 0, vi 0, vi 0, vi 0, vi 0, .slice none 0 0]
theorem zBat_one : ∀ u ∈ zBat, u.oneCell' = true := by
  intro u hu; simp [zBat] at hu; rcases hu with rfl | rfl <;> rfl

set_option maxHeartbeats 1000000 in
theorem c68 (h : Sat Γ L w) {v : Value} {p : Bytes} (hv : byt v p ∈ Γ) (hl : p.length ≤ 100000000000) {R : Option (Bat × Nat)} (hR : R = rfD p) :
    Meets Try.prog 68 [v] w fun v' w' => ∃ us : List Value, v' = .tuple #[.agg us.toArray, vi (fUsed R)] ∧ us.length = 6 ∧ (∀ u ∈ us, u.oneCell' = true) ∧ Sat (batO us (R.map (·.1)) :: Γ) L w' := by
  obtain ⟨A, c, rfl, hc1, hc2⟩ := h.bytVal hv
  simp only [maxLen] at hc2
  refine spec_join Try.func68 Try.ntmps68 Try.results68 rfl (by kernel_rfl) rfl (J := [100007, 100011]) ?_
  refine h.new fun b2 w1 hS => ?_
  have hS : Sat Γ (.blk b2 zBat 32 :: L) w1 := hS
  have out : ∀ {u : World} {k : Nat} {Γ' : List PP} {L' : List HP}, R = none → k = L'.length → Sat (Γ' ++ Γ) (L' ++ .blk b2 zBat 32 :: L) u →
      wrAt u ⟨b2, 0, none⟩ 0 zBat ∧ ∀ u1, u1 = setCells u ⟨b2, 0, none⟩ 0 zBat → ∃ vs : List Value, (vs.length = 6 ∧ cellsAt u1 ⟨b2, 0, none⟩ 0 vs) ∧ ∃ us : List Value, Value.tuple #[.agg vs.toArray, vi 0] = .tuple #[.agg us.toArray, vi (fUsed R)] ∧ us.length = 6 ∧ (∀ u ∈ us, u.oneCell' = true) ∧ Sat (batO us (R.map (·.1)) :: Γ) L u1 := by
    intro u k Γ' L' hn hk hS
    have hg : (L' ++ HP.blk b2 zBat 32 :: L)[k]? = some (.blk b2 zBat 32) := by subst hk; simp
    refine hS.stAll (vs := zBat) (k := k) hg rfl zBat_one fun u1 hS => ?_
    have he : (L' ++ HP.blk b2 zBat 32 :: L).set k (.blk b2 zBat 32) = L' ++ .blk b2 zBat 32 :: L := by subst hk; simp
    rw [he] at hS
    refine ⟨zBat, ⟨rfl, hS.ldAll hg⟩, zBat, by rw [hn]; rfl, rfl, zBat_one, ?_⟩
    exact hS.weak.drop.any _ fun I b hb => by rw [hn] at hb; cases hb
  unfold rfD at hR
  refine ⟨fun hc => ?_, fun hc => ?_⟩
  · have hc : p.length < 50 := by have := of_decide_eq_true hc; omega
    rw [if_pos hc] at hR
    exact out (k := 0) (Γ' := []) (L' := []) hR rfl hS
  have hc : ¬ p.length < 50 := by have := of_decide_eq_false hc; omega
  rw [if_neg hc] at hR
  refine ⟨⟨by decide, by decide, by omega⟩, ?_⟩
  intro A1 hA1
  refine (cfx hS hv 8 12 (by omega) (by omega) (by omega) hA1).mono ?_
  rintro _ w1 ⟨rfl, rfl⟩
  generalize hn : fx p 8 12 = n at hR
  have e12 : IntKind.i64.wrap ((p.length : Int) - 12) = ((p.length - 12 : Nat) : Int) := by rw [w64 (by omega)]; omega
  refine ⟨fun h => ?_, fun h => ?_⟩
  · have h : ((decide (n < 38) || decide (65536 < n)) || decide (IntKind.i64.wrap ((p.length : Int) - 12) < n)) = true := h
    rw [e12] at h
    rw [if_pos (by simp at h; omega)] at hR
    exact out (k := 0) (Γ' := []) (L' := []) hR rfl hS
  have h : ((decide (n < 38) || decide (65536 < n)) || decide (IntKind.i64.wrap ((p.length : Int) - 12) < n)) = false := h
  rw [e12] at h
  rw [if_neg (by simp at h; omega)] at hR
  have h : 38 ≤ n ∧ n ≤ 65536 ∧ n ≤ ((p.length - 12 : Nat) : Int) := by simp at h; omega
  have eq : IntKind.i64.wrap (12 + n) = ((12 + n.toNat : Nat) : Int) := by rw [w64 (by omega)]; omega
  refine ⟨⟨?_, ?_⟩, ?_⟩
  · show 0 ≤ IntKind.i64.wrap (12 + n)
    rw [eq]; omega
  · show IntKind.i64.wrap (12 + n) ≤ _
    rw [eq]; omega
  have hS := hS.bytUpto hv (IntKind.i64.wrap (12 + n)).toNat (by rw [eq]; omega)
  have eN : (IntKind.i64.wrap (12 + n)).toNat = 12 + n.toNat := by rw [eq]; omega
  have eQ : p.take (IntKind.i64.wrap (12 + n)).toNat = p.take (12 + n.toNat) := by rw [eN]
  rw [eQ] at hS
  have hql : (p.take (12 + n.toNat)).length = 12 + n.toNat := by simp; omega
  generalize hq : p.take (12 + n.toNat) = q at hS hR hql
  generalize hB0 : fx q 0 8 = base
  generalize hB1 : fx q 16 24 = last
  generalize hB2 : fx q 24 32 = first
  refine ⟨[5, 6], fun vs w' => vs = [vi base, vi last] ∧ Sat (byt (.slice A (IntKind.i64.wrap (12 + n)).toNat c) q :: Γ) (.blk b2 zBat 32 :: L) w', by kernel_rfl, ?_, ?_⟩
  · refine ⟨hs [0, 1, 3, 4] (.one 2 false (.one 5 false (hs [6, 7] .nil))), fun _ => True, by kernel_rfl, by kernel_rfl, trivial, ?_⟩
    have hS := hS.drew
    refine ⟨⟨by decide, by omega⟩, ⟨by decide, by decide, by omega⟩, ?_⟩
    intro A2 hA2
    refine (cfx0 hS mh 8 (by omega) (by omega)).mono ?_
    rintro _ u ⟨rfl, rfl⟩
    refine (cfx hS mh 16 24 (by omega) (by omega) (by omega) hA2).mono ?_
    rintro _ u ⟨rfl, rfl⟩
    rw [hB0, hB1]
    exact ⟨rfl, hS⟩
  rintro _ w2 ⟨rfl, hS⟩
  refine ⟨rfl, ⟨by decide, by decide, by omega⟩, ?_⟩
  intro A3 hA3
  refine (cfx hS mh 24 32 (by omega) (by omega) (by omega) hA3).mono ?_
  rintro _ w2 ⟨rfl, rfl⟩
  rw [hB2]
  have hRq : R = (rfQ q).map fun b => (b, 12 + n.toNat) := hR
  unfold rfQ at hRq
  simp only [hB0, hB1, hB2] at hRq
  refine ⟨fun h => ?_, fun h => ?_⟩
  · have h : rfBad base last first = true := h
    rw [if_pos h] at hRq
    exact out (k := 0) (Γ' := [_]) (L' := []) hRq rfl hS
  have h : rfBad base last first = false := h
  rw [if_neg (by rw [h]; simp)] at hRq
  refine ⟨[8], fun vs w' => ∃ b8, vs = [ptr b8] ∧ Sat (byt (.slice A (IntKind.i64.wrap (12 + n)).toNat c) q :: Γ) (.blk b8 [vi base, vi (IntKind.i64.wrap (base + last)), vi (fx q 32 40), vi (fx q 40 42), vi (fx q 42 46), .slice none 0 0] 32 :: .blk b2 zBat 32 :: L) w', by kernel_rfl, ?_, ?_⟩
  · refine ⟨hs [0, 1, 2, 3, 4, 5, 7, 8, 10, 11] (.two 6 false (.two 9 false (.two 12 false (hs [13] (.one 14 false (.one 15 false .nil))) 14 false (.one 12 false (hs [13] (.one 15 false .nil)))) 14 false (.one 9 false (.one 12 false (hs [13] (.one 15 false .nil))))) 14 false (.one 6 false (.one 9 false (.one 12 false (hs [13] (.one 15 false .nil)))))), fun _ => True, by kernel_rfl, by kernel_rfl, trivial, ?_⟩
    have hS := hS.drew
    refine ⟨⟨by decide, by decide, by omega⟩, ?_⟩
    intro A2 hA2
    refine ⟨⟨by decide, by decide, by omega⟩, ?_⟩
    intro A4 hA4
    refine ⟨⟨by decide, by decide, by omega⟩, ?_⟩
    intro A5 hA5
    have hone : ∀ u ∈ [vi base, vi (IntKind.i64.wrap (base + last)), vi (fx q 32 40), vi (fx q 40 42), vi (fx q 42 46), .slice none 0 0], u.oneCell' = true := by
      intro u hu; simp at hu; rcases hu with rfl | rfl | rfl | rfl | rfl | rfl <;> rfl
    have m6 : ∀ {L' : List HP} {u : World}, Sat (byt (.slice A (IntKind.i64.wrap (12 + n)).toNat c) q :: Γ) L' u → Meets Try.prog 119 [.slice A2 (40 - 32) (c - 32)] u fun v' w' => v' = vi (fx q 32 40) ∧ w' = u := fun hS => cfx hS mh 32 40 (by omega) (by omega) (by omega) hA2
    have m9 : ∀ {L' : List HP} {u : World}, Sat (byt (.slice A (IntKind.i64.wrap (12 + n)).toNat c) q :: Γ) L' u → Meets Try.prog 119 [.slice A4 (42 - 40) (c - 40)] u fun v' w' => v' = vi (fx q 40 42) ∧ w' = u := fun hS => cfx hS mh 40 42 (by omega) (by omega) (by omega) hA4
    have m12 : ∀ {L' : List HP} {u : World}, Sat (byt (.slice A (IntKind.i64.wrap (12 + n)).toNat c) q :: Γ) L' u → Meets Try.prog 119 [.slice A5 (46 - 42) (c - 42)] u fun v' w' => v' = vi (fx q 42 46) ∧ w' = u := fun hS => cfx hS mh 42 46 (by omega) (by omega) (by omega) hA5
    refine ⟨?_, ?_⟩
    · refine (m6 hS).mono ?_
      rintro _ u ⟨rfl, rfl⟩
      refine ⟨?_, ?_⟩
      · refine (m9 hS).mono ?_
        rintro _ u ⟨rfl, rfl⟩
        refine ⟨?_, ?_⟩
        · refine (m12 hS).mono ?_
          rintro _ u ⟨rfl, rfl⟩
          refine hS.new fun b8 u hS => ?_
          have hS : Sat _ (.blk b8 zBat 32 :: .blk b2 zBat 32 :: L) u := hS
          exact hS.stAll (vs := [vi base, vi (IntKind.i64.wrap (base + last)), vi (fx q 32 40), vi (fx q 40 42), vi (fx q 42 46), .slice none 0 0]) (k := 0) rfl rfl hone fun u hS => ⟨b8, rfl, hS⟩
        · refine hS.new fun b8 u hS => ?_
          have hS : Sat _ (.blk b8 zBat 32 :: .blk b2 zBat 32 :: L) u := hS
          refine (m12 hS).mono ?_
          rintro _ u ⟨rfl, rfl⟩
          exact hS.stAll (vs := [vi base, vi (IntKind.i64.wrap (base + last)), vi (fx q 32 40), vi (fx q 40 42), vi (fx q 42 46), .slice none 0 0]) (k := 0) rfl rfl hone fun u hS => ⟨b8, rfl, hS⟩
      · refine hS.new fun b8 u hS => ?_
        have hS : Sat _ (.blk b8 zBat 32 :: .blk b2 zBat 32 :: L) u := hS
        refine (m9 hS).mono ?_
        rintro _ u ⟨rfl, rfl⟩
        refine (m12 hS).mono ?_
        rintro _ u ⟨rfl, rfl⟩
        exact hS.stAll (vs := [vi base, vi (IntKind.i64.wrap (base + last)), vi (fx q 32 40), vi (fx q 40 42), vi (fx q 42 46), .slice none 0 0]) (k := 0) rfl rfl hone fun u hS => ⟨b8, rfl, hS⟩
    · refine hS.new fun b8 u hS => ?_
      have hS : Sat _ (.blk b8 zBat 32 :: .blk b2 zBat 32 :: L) u := hS
      refine (m6 hS).mono ?_
      rintro _ u ⟨rfl, rfl⟩
      refine (m9 hS).mono ?_
      rintro _ u ⟨rfl, rfl⟩
      refine (m12 hS).mono ?_
      rintro _ u ⟨rfl, rfl⟩
      exact hS.stAll (vs := [vi base, vi (IntKind.i64.wrap (base + last)), vi (fx q 32 40), vi (fx q 40 42), vi (fx q 42 46), .slice none 0 0]) (k := 0) rfl rfl hone fun u hS => ⟨b8, rfl, hS⟩
  rintro _ w3 ⟨b8, rfl, hS⟩
  refine ⟨rfl, ⟨by decide, by omega⟩, ?_⟩
  intro A6 hA6
  have hS6 := hS.bytFrom mh 50 (by omega)
  rw [← (show A6 = (if c = 50 then A else A.map (·.add (50 * 1))) from hA6)] at hS6
  refine ⟨⟨by decide, by decide, by omega⟩, ?_⟩
  intro A7 hA7
  refine (cfx hS mh 46 50 (by omega) (by omega) (by omega) hA7).mono ?_
  rintro _ w3 ⟨rfl, rfl⟩
  generalize hC : fx q 46 50 = cnt at hRq
  refine ⟨fun h => ?_, fun h => ?_⟩
  · have h : 100 < cnt := of_decide_eq_true h
    rw [if_pos h] at hRq
    exact out (k := 1) (Γ' := [_]) (L' := [_]) hRq rfl hS
  have h : ¬ 100 < cnt := of_decide_eq_false h
  rw [if_neg h] at hRq
  let H : Value → List Value := fun rv => [vi base, vi (IntKind.i64.wrap (base + last)), vi (fx q 32 40), vi (fx q 40 42), vi (fx q 42 46), rv]
  have hS7 := hS6.ownNil recR
  refine ⟨[3, 9, 11], by kernel_rfl, fun vs w' => ∃ (i : Nat) (pv rv : Value) (ps : Bytes) (acc : List Rec), vs = [vi 0, pv, vi i] ∧ i ≤ cnt.toNat ∧ ps.length ≤ p.length ∧ acc.length = i ∧ Sat (byt pv ps :: byt (.slice A (IntKind.i64.wrap (12 + n)).toNat c) q :: Γ) (recR.own rv acc :: .blk b8 (H rv) 32 :: .blk b2 zBat 32 :: L) w' ∧ rRecs first base cnt.toNat (q.drop 50) [] = rRecs first base (cnt.toNat - i) ps acc,
    fun vs _ => match vs with | [_, _, .int _ i] => (cnt - i).toNat | _ => 0, ?_, ?_⟩
  · exact ⟨0, _, _, q.drop 50, [], rfl, by omega, by simp; omega, rfl, hS7, rfl⟩
  clear hS7 hS6
  rintro _ w4 ⟨i, pv, rv, ps, acc, rfl, hi, hpl, hal, hS, hrr⟩
  obtain ⟨A8, c8, rfl, hc8, hc9⟩ := hS.bytVal mh
  obtain ⟨A9, c9, rfl, _⟩ := hS.ownVal (k := 0) rfl
  refine ⟨rfl, fun hlt => ?_, fun hlt => ?_⟩
  · have hlt : (i : Int) < cnt := of_decide_eq_true hlt
    rw [show cnt.toNat - i = (cnt.toNat - (i + 1)) + 1 by omega, rRecs] at hrr
    have hgl := gbD_len ps ps.length
    generalize hgb : gbD ps ps.length = g at hrr hgl
    refine (c120 hS mh _ hgb).mono ?_
    rintro _ w5 ⟨u1, u2, rfl, hS⟩
    refine ⟨fun h => ?_, fun h => ?_⟩
    · have h : g.2.2 ≠ 0 := by
        have h : (!decide ((g.2.2 : Int) = 0)) = true := h
        simp at h; omega
      rw [if_pos h] at hrr
      rw [hrr] at hRq
      exact out (k := 2) (Γ' := [_, _, _, _]) (L' := [_, _]) hRq rfl hS
    have h : ¬ g.2.2 ≠ 0 := by
      have h : (!decide ((g.2.2 : Int) = 0)) = false := h
      simp at h; omega
    rw [if_neg h] at hrr
    generalize hrd : rrD g.1 first base = rr at hrr
    refine (c121 hS mh (by omega) first base hrd.symm).mono ?_
    rintro _ w6 ⟨us, rfl, hu1, hu2, hS⟩
    obtain ⟨y0, y1, y2, y3, y4, y5, rfl⟩ := six_of hu1
    refine hS.new fun b15 w7 hS => ?_
    have hS : Sat _ (.blk b15 zRec 47 :: recR.own (.slice A9 acc.length c9) acc :: .blk b8 (H (.slice A9 acc.length c9)) 32 :: .blk b2 zBat 32 :: L) w7 := hS
    refine hS.stAll (vs := [y0, y1, y2, y3, y4, y5]) (k := 0) rfl rfl hu2 fun w8 hS => ?_
    cases rr with
    | none =>
      refine ⟨fun _ => ?_, fun h => by cases h⟩
      rw [hrr] at hRq
      exact out (k := 3) (Γ' := [_, _, _, _, _]) (L' := [_, _, _]) hRq rfl hS
    | some r =>
    refine ⟨fun h => (by cases h), fun _ => ?_⟩
    have hS := hS.der (p := recR.el [y0, y1, y2, y3, y4, y5] r) (q := recO [y0, y1, y2, y3, y4, y5] (some r)) mh fun I h => h r rfl
    have hS : Sat _ (.blk b15 [y0, y1, y2, y3, y4, y5] 47 :: recR.own (.slice A9 acc.length c9) acc :: .blk b8 (H (.slice A9 acc.length c9)) 32 :: .blk b2 zBat 32 :: L) w8 := hS
    refine ⟨_, rfl, _, _, ⟨rfl, cell_of (hS.blk (k := 2) rfl) rfl⟩, _, _, ⟨rfl, rfl, hS.ldAll (k := 0) rfl⟩, ?_⟩
    refine hS.new fun b16 w9 hS => ?_
    have hS : Sat _ (.blk b16 [y0, y1, y2, y3, y4, y5] 47 :: .blk b15 [y0, y1, y2, y3, y4, y5] 47 :: recR.own (.slice A9 acc.length c9) acc :: .blk b8 (H (.slice A9 acc.length c9)) 32 :: .blk b2 zBat 32 :: L) w9 := hS
    refine hS.apOne (R := recR) (k := 2) (j := 0) rfl rfl mh recTy' (by omega) fun A' c' w10 hS => ?_
    refine ⟨_, rfl, hS.st (k := 3) (i := 5) rfl (by simp [H]) rfl fun w11 hS => ?_⟩
    have ei : IntKind.i64.wrap ((i : Int) + 1) = ((i + 1 : Nat) : Int) := by rw [w64 (by omega)]; rfl
    refine ⟨⟨i + 1, u2, _, g.2.1, acc ++ [r], ?_, by omega, by omega, by simp [hal], (hS.sub (Γ' := _ :: _ :: Γ) (by
      intro q hq
      rcases List.mem_cons.1 hq with rfl | hq
      · exact mt (mt (mt mh))
      rcases List.mem_cons.1 hq with rfl | hq
      · exact mt (mt (mt (mt (mt mh))))
      exact mt (mt (mt (mt (mt (mt hq))))))).drop.drop, hrr⟩, ?_⟩
    · show [_, _, vi (IntKind.i64.wrap ((i : Int) + 1))] = _
      rw [ei]
    · show (cnt - IntKind.i64.wrap ((i : Int) + 1)).toNat < (cnt - (i : Int)).toNat
      rw [ei]; omega
  · have hlt : ¬ (i : Int) < cnt := of_decide_eq_false hlt
    rw [show cnt.toNat - i = 0 by omega, rRecs] at hrr
    rw [hrr] at hRq
    dsimp only at hRq
    have hB : rfB q acc = ⟨base, IntKind.i64.wrap (base + last), fx q 32 40, fx q 40 42, fx q 42 46, acc⟩ := by rw [rfB, hB0, hB1]
    rw [hB] at hRq
    generalize hbb : (⟨base, IntKind.i64.wrap (base + last), fx q 32 40, fx q 40 42, fx q 42 46, acc⟩ : Bat) = bb at hRq
    have hS := hS.ownFreeze (R := recR) (k := 0) rfl
    have hone : ∀ u ∈ H (.slice A9 acc.length c9), u.oneCell' = true := by
      intro u hu; simp [H] at hu; rcases hu with rfl | rfl | rfl | rfl | rfl | rfl <;> rfl
    have hS := hS.der (p := bat (.agg (H (.slice A9 acc.length c9)).toArray) bb) (q := recR.sl (.slice A9 acc.length c9) acc) mh fun I h => by
      subst hbb
      exact ⟨_, rfl, isRecs_iff.2 h⟩
    have hS : Sat _ (.emp :: .blk b8 (H (.slice A9 acc.length c9)) 32 :: .blk b2 zBat 32 :: L) w4 := hS
    refine ⟨_, _, ⟨rfl, rfl, hS.ldAll (k := 1) rfl⟩, ?_⟩
    refine (c24 hS mh).mono ?_
    rintro _ w5 ⟨u, rfl, hS⟩
    obtain ⟨Au, cu, rfl, _⟩ := hS.bytVal mh
    refine Or.inr ?_
    refine ⟨_, fun _ => ⟨_, _, hS.str mh, rfl, rfl⟩, ?_⟩
    refine Or.inr ?_
    refine ⟨_, fun _ => ⟨_, _, hS.str (mt (mt (mt (mt mh)))), rfl, rfl⟩, ?_⟩
    have key : (chk bb = 0 ∧ encB bb = q) ↔ (!decide ((chk bb : Int) = 0) || !decide (strB (if chk bb = 0 then encB bb else []) = strB q)) = false := by
      simp only [Bool.or_eq_false_iff, Bool.not_eq_false', decide_eq_true_eq]
      constructor
      · rintro ⟨h1, h2⟩
        refine ⟨by omega, ?_⟩
        rw [if_pos h1, h2]
      · rintro ⟨h1, h2⟩
        have h1 : chk bb = 0 := by omega
        rw [if_pos h1] at h2
        exact ⟨h1, strB_inj h2⟩
    refine ⟨fun h => ?_, fun h => ?_⟩
    · have h : (!decide ((chk bb : Int) = 0) || !decide (strB (if chk bb = 0 then encB bb else []) = strB q)) = true := h
      rw [if_neg (fun hk => by rw [key.1 hk] at h; cases h)] at hRq
      exact out (k := 2) (Γ' := [_, _, _, _, _]) (L' := [_, _]) hRq rfl hS
    · have h : (!decide ((chk bb : Int) = 0) || !decide (strB (if chk bb = 0 then encB bb else []) = strB q)) = false := h
      rw [if_pos (key.2 h)] at hRq
      refine ⟨_, _, ⟨rfl, rfl, hS.ldAll (k := 1) rfl⟩, ?_⟩
      refine hS.stAll (vs := H (.slice A9 acc.length c9)) (k := 2) rfl rfl hone fun w6 hS => ?_
      subst hRq
      refine ⟨_, ⟨rfl, hS.ldAll (k := 2) rfl⟩, H (.slice A9 acc.length c9), ?_, rfl, hone, ?_⟩
      · show Value.tuple #[_, vi ((IntKind.i64.wrap (12 + n)).toNat : Int)] = _
        rw [eN]; rfl
      · have hS := hS.der (p := batO (H (.slice A9 acc.length c9)) (some bb)) (q := bat (.agg (H (.slice A9 acc.length c9)).toArray) bb) (mt mh) fun I h b hb => by
          cases hb; exact h
        exact (hS.sub (Γ' := _ :: Γ) fun q hq => by
          rcases List.mem_cons.1 hq with rfl | hq
          · exact mh
          · exact mt (mt (mt (mt (mt (mt hq)))))).drop.drop.drop
end
end Go.Proofs.Yticgmchbihakkaa

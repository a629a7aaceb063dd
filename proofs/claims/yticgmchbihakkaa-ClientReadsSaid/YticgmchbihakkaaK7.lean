/- Record, records, Clone. -/
import Derived.Test.YticgmchbihakkaaK6
set_option linter.unusedVariables false
set_option linter.unusedSimpArgs false
namespace Go.Proofs.Yticgmchbihakkaa
open Go Go.Den
set_option maxRecDepth 100000

def keyB (k : Int) : Bytes := if 0 ≤ k then [UInt8.ofNat (IntKind.u8.wrap (IntKind.i64.wrap (97 + roundI k 26))).toNat] else []
def valB (v : Int) : Bytes := if 0 ≤ v then blkB (roundI v 40).toNat v else []
def recV (k v t : Int) : Rec := ⟨0, t, decide (0 ≤ k), keyB k, decide (0 ≤ v), valB v⟩

section
variable {Γ : List PP} {L : List HP} {w : World}
abbrev rec0 (t : Int) (hk : Bool) (kv : Value) (hv : Bool) (vv : Value) : List Value := [vi 0, vi t, .bool hk, kv, .bool hv, vv]
theorem bv_of (z : Int) : bv (UInt8.ofNat (IntKind.u8.wrap z).toNat) = .int .u8 (IntKind.u8.wrap z) := by
  unfold bv
  have h1 : 0 ≤ IntKind.u8.wrap z ∧ IntKind.u8.wrap z < 256 := by rw [wu8]; omega
  congr 1
  rw [UInt8.toNat_ofNat']
  omega
theorem c78 (h : Sat Γ L w) (k v t : Int) : Meets Try.prog 78 [vi k, vi v, vi t] w fun v' w' => ∃ kv vv, v' = .agg (recC (recV k v t) kv vv).toArray ∧ Sat (byt kv (keyB k) :: byt vv (valB v) :: Γ) L w' := by
  refine spec_join Try.func78 Try.ntmps78 Try.results78 rfl (by kernel_rfl) rfl (J := [11, 20]) ?_
  refine h.new fun b6 w1 hS => ?_
  have hS : Sat Γ (.blk b6 (rec0 0 false nilS false nilS) 47 :: L) w1 := hS
  refine hS.new fun b7 w2 hS => ?_
  have hS : Sat Γ (.blk b7 (rec0 0 false nilS false nilS) 47 :: .blk b6 (rec0 0 false nilS false nilS) 47 :: L) w2 := hS
  refine hS.stAll (vs := rec0 t false nilS false nilS) (k := 0) rfl rfl (one_of rfl) fun w3 hS => ?_
  have hS : Sat Γ (.blk b7 (rec0 t false nilS false nilS) 47 :: .blk b6 (rec0 0 false nilS false nilS) 47 :: L) w3 := hS
  refine ⟨[], fun vs u => vs = [] ∧ ∃ K c, Sat (byt (.slice K (keyB k).length c) (keyB k) :: Γ) (.blk b7 (rec0 t (decide (0 ≤ k)) (.slice K (keyB k).length c) false nilS) 47 :: .blk b6 (rec0 0 false nilS false nilS) 47 :: L) u, by kernel_rfl, fun hc => ?_, fun hc => ?_, ?_⟩
  · have hc : decide (0 ≤ k) = true := hc
    have hc := of_decide_eq_true hc
    refine ⟨_, rfl, hS.st (k := 0) (i := 2) rfl (by simp) rfl fun w4 hS => ?_⟩
    have hS : Sat Γ (.blk b7 (rec0 t true nilS false nilS) 47 :: .blk b6 (rec0 0 false nilS false nilS) 47 :: L) w4 := hS
    refine (c60 _ k 26 (by decide)).mono ?_
    rintro _ w5 ⟨rfl, rfl⟩
    refine hS.new fun b8 w5 hS => ?_
    have hS : Sat Γ (.blk b8 [.int .u8 (IntKind.u8.wrap (IntKind.i64.wrap (97 + roundI k 26)))] 5 :: .blk b7 (rec0 t true nilS false nilS) 47 :: .blk b6 (rec0 0 false nilS false nilS) 47 :: L) w5 := hS
    have hk : keyB k = [UInt8.ofNat (IntKind.u8.wrap (IntKind.i64.wrap (97 + roundI k 26))).toNat] := by unfold keyB; rw [if_pos hc]
    rw [← bv_of] at hS
    have hS := hS.freeze (k := 0) (p := byt (.slice (some ⟨b8, 0, none⟩) 1 1) (keyB k)) rfl fun I E ⟨h1, h2⟩ => by
      rw [hk]
      exact ⟨some b8, IsB.mk' (xs := [UInt8.ofNat (IntKind.u8.wrap (IntKind.i64.wrap (97 + roundI k 26))).toNat]) (cap := 1) h2 (by simp) (by decide) (fun j x hj => by
        match j with
        | 0 => simp at hj; subst hj; rfl
        | j + 1 => simp at hj), fun b hb => by cases hb; exact .inr h1⟩
    refine ⟨_, rfl, hS.st (k := 1) (i := 3) rfl (by simp) rfl fun w6 hS => ?_⟩
    refine ⟨rfl, some ⟨b8, 0, none⟩, 1, ?_⟩
    rw [decide_eq_true hc, show (keyB k).length = 1 by rw [hk]; rfl]
    exact hS.drop
  · have hc : decide (0 ≤ k) = false := hc
    have hc := of_decide_eq_false hc
    have hk : keyB k = [] := by unfold keyB; rw [if_neg hc]
    refine ⟨rfl, none, 0, ?_⟩
    rw [decide_eq_false hc, hk]
    exact hS.addp fun I _ _ => ⟨none, .nil _, by simp⟩
  · rintro _ w4 ⟨rfl, K, c, hS⟩
    refine ⟨rfl, ?_⟩
    refine ⟨[], fun vs u => vs = [] ∧ ∃ V d, Sat (byt (.slice V (valB v).length d) (valB v) :: byt (.slice K (keyB k).length c) (keyB k) :: Γ) (.blk b7 (rec0 t (decide (0 ≤ k)) (.slice K (keyB k).length c) (decide (0 ≤ v)) (.slice V (valB v).length d)) 47 :: .blk b6 (rec0 0 false nilS false nilS) 47 :: L) u, by kernel_rfl, fun hc => ?_, fun hc => ?_, ?_⟩
    · have hc : decide (0 ≤ v) = true := hc
      have hc := of_decide_eq_true hc
      refine ⟨_, rfl, hS.st (k := 0) (i := 4) rfl (by simp) rfl fun w5 hS => ?_⟩
      have hS : Sat _ (.blk b7 (rec0 t (decide (0 ≤ k)) (.slice K (keyB k).length c) true nilS) 47 :: .blk b6 (rec0 0 false nilS false nilS) 47 :: L) w5 := hS
      refine (c60 _ v 40 (by decide)).mono ?_
      rintro _ w6 ⟨rfl, rfl⟩
      have hr : 0 ≤ roundI v 40 ∧ roundI v 40 < 40 := by
        unfold roundI
        have h1 : 0 ≤ Int.tmod v 40 := Int.tmod_nonneg _ hc
        have h2 := Int.tmod_lt_of_pos v (show (0 : Int) < 40 by decide)
        rw [if_neg (by omega)]; omega
      have hv : valB v = blkB (roundI v 40).toNat v := by unfold valB; rw [if_pos hc]
      rw [show roundI v 40 = ((roundI v 40).toNat : Int) by omega]
      refine (c129 hS (roundI v 40).toNat (by omega) v).mono ?_
      rintro u w6 hS
      rw [← hv] at hS
      obtain ⟨V, d, rfl, _⟩ := hS.bytVal mh
      refine ⟨_, rfl, hS.st (k := 0) (i := 5) rfl (by simp) rfl fun w6 hS => ?_⟩
      refine ⟨rfl, V, d, ?_⟩
      rw [decide_eq_true hc]
      exact hS
    · have hc : decide (0 ≤ v) = false := hc
      have hc := of_decide_eq_false hc
      have hv : valB v = [] := by unfold valB; rw [if_neg hc]
      refine ⟨rfl, none, 0, ?_⟩
      rw [decide_eq_false hc, hv]
      exact hS.addp fun I _ _ => ⟨none, .nil _, by simp⟩
    · rintro _ w5 ⟨rfl, V, d, hS⟩
      refine ⟨rfl, ?_⟩
      refine ⟨_, _, ⟨rfl, rfl, hS.ldAll (k := 0) rfl⟩, ?_⟩
      refine hS.stAll (vs := rec0 t (decide (0 ≤ k)) (.slice K (keyB k).length c) (decide (0 ≤ v)) (.slice V (valB v).length d)) (k := 1) rfl rfl (one_of rfl) fun w6 hS => ?_
      refine ⟨_, ⟨rfl, hS.ldAll (k := 1) rfl⟩, .slice K (keyB k).length c, .slice V (valB v).length d, rfl, ?_⟩
      exact (hS.drop.drop).sub fun q hq => by
        rcases List.mem_cons.1 hq with rfl | hq
        · exact mt mh
        rcases List.mem_cons.1 hq with rfl | hq
        · exact mh
        · exact mt (mt hq)

theorem recTy : ElemTy Try.prog 30 recR.ty recR.sz 80 (.agg #[vi 0, vi 0, .bool false, nilS, .bool false, nilS]) := ⟨by kernel_rfl, by kernel_rfl, rfl, by decide, by decide⟩
def recsV (n : Nat) (seed : Int) : List Rec := (List.range n).map fun i : Nat => recV (IntKind.i64.wrap (seed + (i : Int))) (i : Int) (i : Int)
theorem c26 (h : Sat Γ L w) (n : Nat) (hn : n ≤ 1000) (seed : Int) : Meets Try.prog 26 [vi n, vi seed] w fun v' w' => Sat (recR.sl v' (recsV n seed) :: Γ) L w' := by
  refine spec_of Try.func26 Try.ntmps26 Try.results26 rfl (by kernel_rfl) rfl ?_
  have hS := h.ownNil recR
  refine ⟨[5, 6], by kernel_rfl, fun vs w' => ∃ (i : Nat) (lv : Value), i ≤ n ∧ vs = [lv, vi i] ∧ Sat Γ (recR.own lv (recsV i seed) :: L) w', fun vs _ => match vs with | [_, .int _ i] => (n - i).toNat | _ => 0, ⟨0, _, by omega, rfl, hS⟩, ?_⟩
  rintro _ w1 ⟨i, lv, hi, rfl, hS⟩
  obtain ⟨A, c, rfl, hA1, hA2, hA3⟩ := hS.ownVal (k := 0) rfl
  refine ⟨rfl, fun hlt => ?_, fun hlt => ?_⟩
  · have hlt : i < n := by
      have h : decide ((i : Int) < n) = true := hlt
      have := of_decide_eq_true h; omega
    have ei : IntKind.i64.wrap ((i : Int) + 1) = ((i + 1 : Nat) : Int) := w64 (by omega)
    refine (c78 hS _ _ _).mono ?_
    rintro _ w2 ⟨kv, vv, rfl, hS⟩
    obtain ⟨K, ck, rfl, _⟩ := hS.bytVal mh
    obtain ⟨V, cv, rfl, _⟩ := hS.bytVal (mt mh)
    have hS := hS.addp (p := recR.el (recC (recV (IntKind.i64.wrap (seed + i)) i i) (.slice K (keyB (IntKind.i64.wrap (seed + i))).length ck) (.slice V (valB i).length cv)) (recV (IntKind.i64.wrap (seed + i)) i i)) fun I _ hI => ⟨_, _, rfl, hI _ mh, hI _ (mt mh)⟩
    have hl : (recsV i seed).length = i := by simp [recsV]
    refine hS.new fun b7 w3 hS => ?_
    have hS : Sat _ (.blk b7 (recC (recV (IntKind.i64.wrap (seed + i)) i i) (.slice K (keyB (IntKind.i64.wrap (seed + i))).length ck) (.slice V (valB i).length cv)) 47 :: recR.own (.slice A (recsV i seed).length c) (recsV i seed) :: L) w3 := hS
    refine hS.apOne (R := recR) (k := 1) (j := 0) rfl rfl mh recTy (by rw [hl]; omega) fun A' c' w4 hS => ?_
    have hS := hS.tail.tail.tail.drop
    have ht : recsV i seed ++ [recV (IntKind.i64.wrap (seed + i)) i i] = recsV (i + 1) seed := by simp [recsV, List.range_succ]
    refine ⟨⟨i + 1, .slice A' ((recsV i seed).length + 1) c', hlt, ?_, ?_⟩, ?_⟩
    · show [_, vi (IntKind.i64.wrap ((i : Int) + 1))] = _
      rw [ei]
    · rw [← ht]; exact hS
    · show (n - IntKind.i64.wrap ((i : Int) + 1)).toNat < (n - (i : Int)).toNat
      rw [ei]; omega
  · have hlt : ¬ i < n := by
      have h : decide ((i : Int) < n) = false := hlt
      have := of_decide_eq_false h; omega
    have : i = n := by omega
    subst this
    exact (hS.ownFreeze (R := recR) (k := 0) rfl).drop
end
end Go.Proofs.Yticgmchbihakkaa

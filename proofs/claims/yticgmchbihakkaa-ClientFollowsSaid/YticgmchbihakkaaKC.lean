/- Record, records, Clone. Owned slices opened; Clone; Producer.Make, Done. Producer.Make. Producer.Done; what 'awake' of chapter 24 asks. -/
import Derived.Test.YticgmchbihakkaaKB
set_option linter.unusedVariables false
set_option linter.unusedSimpArgs false
namespace Go.Proofs.Yticgmchbihakkaa
open Go Go.Den
set_option maxRecDepth 100000

def keyB (k : Int) : Bytes := if 0 ≤ k then [UInt8.ofNat (IntKind.u8.wrap (IntKind.i64.wrap (97 + roundI k 26))).toNat] else []
def valB (v : Int) : Bytes := if 0 ≤ v then blkB (roundI v 40).toNat v else []
def recV (k v t : Int) : Rec := ⟨0, t, decide (0 ≤ k), keyB k, decide (0 ≤ v), valB v⟩

section
variable {Γ : List PP} {L : List HP} {w : World}
abbrev rec0 (t : Int) (hk : Bool) (kv : Value) (hv : Bool) (vv : Value) : List Value := [vi 0, vi t, .bool hk, kv, .bool hv, vv]
theorem bv_of (z : Int) : bv (UInt8.ofNat (IntKind.u8.wrap z).toNat) = .int .u8 (IntKind.u8.wrap z) := by
  unfold bv
  have h1 : 0 ≤ IntKind.u8.wrap z ∧ IntKind.u8.wrap z < 256 := by rw [wu8]; omega
  congr 1
  rw [UInt8.toNat_ofNat']
  omega
theorem c78 (h : Sat Γ L w) (k v t : Int) : Meets Try.prog 78 [vi k, vi v, vi t] w fun v' w' => ∃ kv vv, v' = .agg (recC (recV k v t) kv vv).toArray ∧ Sat (byt kv (keyB k) :: byt vv (valB v) :: Γ) L w' := by
  refine spec_join Try.func78 Try.ntmps78 Try.results78 rfl (by kernel_rfl) rfl (J := [11, 20]) ?_
  refine h.new fun b6 w1 hS => ?_
  have hS : Sat Γ (.blk b6 (rec0 0 false nilS false nilS) 47 :: L) w1 := hS
  refine hS.new fun b7 w2 hS => ?_
  have hS : Sat Γ (.blk b7 (rec0 0 false nilS false nilS) 47 :: .blk b6 (rec0 0 false nilS false nilS) 47 :: L) w2 := hS
  refine hS.stAll (vs := rec0 t false nilS false nilS) (k := 0) rfl rfl (one_of rfl) fun w3 hS => ?_
  have hS : Sat Γ (.blk b7 (rec0 t false nilS false nilS) 47 :: .blk b6 (rec0 0 false nilS false nilS) 47 :: L) w3 := hS
  refine ⟨[], fun vs u => vs = [] ∧ ∃ K c, Sat (byt (.slice K (keyB k).length c) (keyB k) :: Γ) (.blk b7 (rec0 t (decide (0 ≤ k)) (.slice K (keyB k).length c) false nilS) 47 :: .blk b6 (rec0 0 false nilS false nilS) 47 :: L) u, by kernel_rfl, fun hc => ?_, fun hc => ?_, ?_⟩
  · have hc : decide (0 ≤ k) = true := hc
    have hc := of_decide_eq_true hc
    refine ⟨_, rfl, hS.st (k := 0) (i := 2) rfl (by simp) rfl fun w4 hS => ?_⟩
    have hS : Sat Γ (.blk b7 (rec0 t true nilS false nilS) 47 :: .blk b6 (rec0 0 false nilS false nilS) 47 :: L) w4 := hS
    refine (c60 _ k 26 (by decide)).mono ?_
    rintro _ w5 ⟨rfl, rfl⟩
    refine hS.new fun b8 w5 hS => ?_
    have hS : Sat Γ (.blk b8 [.int .u8 (IntKind.u8.wrap (IntKind.i64.wrap (97 + roundI k 26)))] 5 :: .blk b7 (rec0 t true nilS false nilS) 47 :: .blk b6 (rec0 0 false nilS false nilS) 47 :: L) w5 := hS
    have hk : keyB k = [UInt8.ofNat (IntKind.u8.wrap (IntKind.i64.wrap (97 + roundI k 26))).toNat] := by unfold keyB; rw [if_pos hc]
    rw [← bv_of] at hS
    have hS := hS.freeze (k := 0) (p := byt (.slice (some ⟨b8, 0, none⟩) 1 1) (keyB k)) rfl fun I E ⟨h1, h2⟩ => by
      rw [hk]
      exact ⟨some b8, IsB.mk' (xs := [UInt8.ofNat (IntKind.u8.wrap (IntKind.i64.wrap (97 + roundI k 26))).toNat]) (cap := 1) h2 (by simp) (by decide) (fun j x hj => by
        match j with
        | 0 => simp at hj; subst hj; rfl
        | j + 1 => simp at hj), fun b hb => by cases hb; exact .inr h1⟩
    refine ⟨_, rfl, hS.st (k := 1) (i := 3) rfl (by simp) rfl fun w6 hS => ?_⟩
    refine ⟨rfl, some ⟨b8, 0, none⟩, 1, ?_⟩
    rw [decide_eq_true hc, show (keyB k).length = 1 by rw [hk]; rfl]
    exact hS.drop
  · have hc : decide (0 ≤ k) = false := hc
    have hc := of_decide_eq_false hc
    have hk : keyB k = [] := by unfold keyB; rw [if_neg hc]
    refine ⟨rfl, none, 0, ?_⟩
    rw [decide_eq_false hc, hk]
    exact hS.addp fun I _ _ => ⟨none, .nil _, by simp⟩
  · rintro _ w4 ⟨rfl, K, c, hS⟩
    refine ⟨rfl, ?_⟩
    refine ⟨[], fun vs u => vs = [] ∧ ∃ V d, Sat (byt (.slice V (valB v).length d) (valB v) :: byt (.slice K (keyB k).length c) (keyB k) :: Γ) (.blk b7 (rec0 t (decide (0 ≤ k)) (.slice K (keyB k).length c) (decide (0 ≤ v)) (.slice V (valB v).length d)) 47 :: .blk b6 (rec0 0 false nilS false nilS) 47 :: L) u, by kernel_rfl, fun hc => ?_, fun hc => ?_, ?_⟩
    · have hc : decide (0 ≤ v) = true := hc
      have hc := of_decide_eq_true hc
      refine ⟨_, rfl, hS.st (k := 0) (i := 4) rfl (by simp) rfl fun w5 hS => ?_⟩
      have hS : Sat _ (.blk b7 (rec0 t (decide (0 ≤ k)) (.slice K (keyB k).length c) true nilS) 47 :: .blk b6 (rec0 0 false nilS false nilS) 47 :: L) w5 := hS
      refine (c60 _ v 40 (by decide)).mono ?_
      rintro _ w6 ⟨rfl, rfl⟩
      have hr : 0 ≤ roundI v 40 ∧ roundI v 40 < 40 := by
        unfold roundI
        have h1 : 0 ≤ Int.tmod v 40 := Int.tmod_nonneg _ hc
        have h2 := Int.tmod_lt_of_pos v (show (0 : Int) < 40 by decide)
        rw [if_neg (by omega)]; omega
      have hv : valB v = blkB (roundI v 40).toNat v := by unfold valB; rw [if_pos hc]
      rw [show roundI v 40 = ((roundI v 40).toNat : Int) by omega]
      refine (c129 hS (roundI v 40).toNat (by omega) v).mono ?_
      rintro u w6 hS
      rw [← hv] at hS
      obtain ⟨V, d, rfl, _⟩ := hS.bytVal mh
      refine ⟨_, rfl, hS.st (k := 0) (i := 5) rfl (by simp) rfl fun w6 hS => ?_⟩
      refine ⟨rfl, V, d, ?_⟩
      rw [decide_eq_true hc]
      exact hS
    · have hc : decide (0 ≤ v) = false := hc
      have hc := of_decide_eq_false hc
      have hv : valB v = [] := by unfold valB; rw [if_neg hc]
      refine ⟨rfl, none, 0, ?_⟩
      rw [decide_eq_false hc, hv]
      exact hS.addp fun I _ _ => ⟨none, .nil _, by simp⟩
    · rintro _ w5 ⟨rfl, V, d, hS⟩
      refine ⟨rfl, ?_⟩
      refine ⟨_, _, ⟨rfl, rfl, hS.ldAll (k := 0) rfl⟩, ?_⟩
      refine hS.stAll (vs := rec0 t (decide (0 ≤ k)) (.slice K (keyB k).length c) (decide (0 ≤ v)) (.slice V (valB v).length d)) (k := 1) rfl rfl (one_of rfl) fun w6 hS => ?_
      refine ⟨_, ⟨rfl, hS.ldAll (k := 1) rfl⟩, .slice K (keyB k).length c, .slice V (valB v).length d, rfl, ?_⟩
      exact (hS.drop.drop).sub fun q hq => by
        rcases List.mem_cons.1 hq with rfl | hq
        · exact mt mh
        rcases List.mem_cons.1 hq with rfl | hq
        · exact mh
        · exact mt (mt hq)

theorem recTy : ElemTy Try.prog 30 recR.ty recR.sz 80 (.agg #[vi 0, vi 0, .bool false, nilS, .bool false, nilS]) := ⟨by kernel_rfl, by kernel_rfl, rfl, by decide, by decide⟩
def recsV (n : Nat) (seed : Int) : List Rec := (List.range n).map fun i : Nat => recV (IntKind.i64.wrap (seed + (i : Int))) (i : Int) (i : Int)
theorem c26 (h : Sat Γ L w) (n : Nat) (hn : n ≤ 1000) (seed : Int) : Meets Try.prog 26 [vi n, vi seed] w fun v' w' => Sat (recR.sl v' (recsV n seed) :: Γ) L w' := by
  refine spec_of Try.func26 Try.ntmps26 Try.results26 rfl (by kernel_rfl) rfl ?_
  have hS := h.ownNil recR
  refine ⟨[5, 6], by kernel_rfl, fun vs w' => ∃ (i : Nat) (lv : Value), i ≤ n ∧ vs = [lv, vi i] ∧ Sat Γ (recR.own lv (recsV i seed) :: L) w', fun vs _ => match vs with | [_, .int _ i] => (n - i).toNat | _ => 0, ⟨0, _, by omega, rfl, hS⟩, ?_⟩
  rintro _ w1 ⟨i, lv, hi, rfl, hS⟩
  obtain ⟨A, c, rfl, hA1, hA2, hA3⟩ := hS.ownVal (k := 0) rfl
  refine ⟨rfl, fun hlt => ?_, fun hlt => ?_⟩
  · have hlt : i < n := by
      have h : decide ((i : Int) < n) = true := hlt
      have := of_decide_eq_true h; omega
    have ei : IntKind.i64.wrap ((i : Int) + 1) = ((i + 1 : Nat) : Int) := w64 (by omega)
    refine (c78 hS _ _ _).mono ?_
    rintro _ w2 ⟨kv, vv, rfl, hS⟩
    obtain ⟨K, ck, rfl, _⟩ := hS.bytVal mh
    obtain ⟨V, cv, rfl, _⟩ := hS.bytVal (mt mh)
    have hS := hS.addp (p := recR.el (recC (recV (IntKind.i64.wrap (seed + i)) i i) (.slice K (keyB (IntKind.i64.wrap (seed + i))).length ck) (.slice V (valB i).length cv)) (recV (IntKind.i64.wrap (seed + i)) i i)) fun I _ hI => ⟨_, _, rfl, hI _ mh, hI _ (mt mh)⟩
    have hl : (recsV i seed).length = i := by simp [recsV]
    refine hS.new fun b7 w3 hS => ?_
    have hS : Sat _ (.blk b7 (recC (recV (IntKind.i64.wrap (seed + i)) i i) (.slice K (keyB (IntKind.i64.wrap (seed + i))).length ck) (.slice V (valB i).length cv)) 47 :: recR.own (.slice A (recsV i seed).length c) (recsV i seed) :: L) w3 := hS
    refine hS.apOne (R := recR) (k := 1) (j := 0) rfl rfl mh recTy (by rw [hl]; omega) fun A' c' w4 hS => ?_
    have hS := hS.tail.tail.tail.drop
    have ht : recsV i seed ++ [recV (IntKind.i64.wrap (seed + i)) i i] = recsV (i + 1) seed := by simp [recsV, List.range_succ]
    refine ⟨⟨i + 1, .slice A' ((recsV i seed).length + 1) c', hlt, ?_, ?_⟩, ?_⟩
    · show [_, vi (IntKind.i64.wrap ((i : Int) + 1))] = _
      rw [ei]
    · rw [← ht]; exact hS
    · show (n - IntKind.i64.wrap ((i : Int) + 1)).toNat < (n - (i : Int)).toNat
      rw [ei]; omega
  · have hlt : ¬ i < n := by
      have h : decide ((i : Int) < n) = false := hlt
      have := of_decide_eq_false h; omega
    have : i = n := by omega
    subst this
    exact (hS.ownFreeze (R := recR) (k := 0) rfl).drop
end
end Go.Proofs.Yticgmchbihakkaa

namespace Go.Den
open Go
/-- A block's cells bear these elements, one behind the other. -/
def Rp.row {α : Type} (R : Rp α) (cs : List Value) (xs : List α) : PP := ⟨fun w I => ∃ l m, cs = l ++ m ∧ R.cells w I xs l, fun ⟨l, m, e, h⟩ k => ⟨l, m, e, Rp.cells_loc k h⟩, fun ⟨l, m, e, h⟩ k => ⟨l, m, e, Rp.cells_mono k h⟩⟩
section
variable {α : Type} {R : Rp α} {Γ : List PP} {L : List HP} {w : World}
theorem set_get {k : Nat} {P Q : HP} (hk : L[k]? = some P) : (L.set k Q)[k]? = some Q := List.getElem?_set_self (List.getElem?_eq_some_iff.1 hk).1
theorem Sat.ownZero (h : Sat Γ L w) {k b : Nat} (hk : L[k]? = some (.blk b [] R.ty)) : Sat Γ (L.set k (R.own (.slice (some ⟨b, 0, none⟩) 0 0) [])) w :=
  h.conv hk fun I E _ ⟨h1, h2⟩ => ⟨[], ⟨by simp, .inr ⟨b, 0, #[], rfl, Nat.zero_le _, h2, Nat.le_refl _, by simp [maxLen], by simp, by simp⟩⟩, rfl, fun b' hb => by cases hb; exact h1⟩
theorem Sat.ownOpen (h : Sat Γ L w) {k n c : Nat} {a : Addr} {xs : List α} (hk : L[k]? = some (R.own (.slice (some a) n c) xs)) :
    ∃ g cs, a = ⟨g, 0, none⟩ ∧ n = xs.length ∧ n ≤ c ∧ c ≤ maxLen ∧ n * R.sz ≤ cs.length ∧ Sat (R.row cs xs :: Γ) (L.set k (.blk g cs R.ty)) w := by
  have h1 := h.conv (P' := .ex fun g => .ex fun cs => .pure (a = ⟨g, 0, none⟩ ∧ n = xs.length ∧ n ≤ c ∧ c ≤ maxLen ∧ n * R.sz ≤ cs.length) (.with (R.row cs xs) (.blk g cs R.ty))) hk fun I E _ ⟨cells, h1, h2, h3⟩ => by
    obtain ⟨hl, ⟨e, h0⟩ | ⟨g, cap, cur, e, hb, hg, hnc, hcm, hcs, ht⟩⟩ := h1
    · cases e
    · cases e
      refine ⟨g, cur.toList, ⟨rfl, rfl, hnc, hcm, ?_⟩, ⟨cells, cur.toList.drop (xs.length * R.sz), ?_, h2⟩, h3 g rfl, ?_⟩
      · have h9 := Nat.mul_le_mul_right R.sz hnc
        show xs.length * R.sz ≤ cur.toList.length
        have h8 : cur.toList.length = c * R.sz := hcs
        omega
      · rw [← ht, List.take_append_drop]
      · simpa using hg
  obtain ⟨g, h1⟩ := h1.exk (set_get hk)
  rw [List.set_set] at h1
  obtain ⟨cs, h1⟩ := h1.exk (set_get hk)
  rw [List.set_set] at h1
  obtain ⟨⟨e1, e2, e3, e4, e5⟩, h1⟩ := h1.purek (set_get hk)
  rw [List.set_set] at h1
  have h1 := h1.withk (set_get hk)
  rw [List.set_set] at h1
  exact ⟨g, cs, e1, e2, e3, e4, e5, h1⟩
theorem Sat.rowFreeze (h : Sat Γ L w) {k g c : Nat} {cs : List Value} {xs : List α} (hk : L[k]? = some (.blk g cs R.ty)) (hm : R.row cs xs ∈ Γ) (hc : xs.length ≤ c) (hm2 : c ≤ maxLen) :
    Sat (R.sl (.slice (some ⟨g, 0, none⟩) xs.length c) xs :: Γ) (L.set k .emp) w := by
  have h1 := h.conv (P' := .ofP (R.sl (.slice (some ⟨g, 0, none⟩) xs.length c) xs)) hk fun I E hI ⟨h1, h2⟩ => by
    obtain ⟨l, m, e, hl⟩ := hI _ hm
    refine Rp.slOk.mk' (o := 0) (cells := l) (.inr h1) h2 hc hm2 (Rp.cells_mono (fun b _ hb => .inl hb) hl) fun j u hj => ?_
    subst e
    rw [Nat.zero_add]
    simpa using List.getElem?_append_left (l₂ := m) (List.getElem?_eq_some_iff.1 hj).1 ▸ hj
  have h2 := h1.freeze (p := R.sl (.slice (some ⟨g, 0, none⟩) xs.length c) xs) (set_get hk) fun I E h => h
  rwa [List.set_set] at h2
end
end Go.Den
namespace Go.Proofs.Yticgmchbihakkaa
open Go Go.Den
set_option maxRecDepth 100000
section
variable {Γ : List PP} {L : List HP} {w : World}
theorem c75 (h : Sat Γ L w) {v : Value} {rs : List Rec} (hv : recR.sl v rs ∈ Γ) (hl : rs.length ≤ 100000) : Meets Try.prog 75 [v] w fun v' w' => Sat Γ (recR.own v' rs :: L) w' := by
  obtain ⟨A, c, rfl, hc1, hc2, hc3⟩ := h.slVal hv
  refine spec_of Try.func75 Try.ntmps75 Try.results75 rfl (by kernel_rfl) rfl ?_
  cases A with
  | none =>
    obtain ⟨h1, rfl⟩ := hc3 rfl
    have : rs = [] := List.eq_nil_of_length_eq_zero h1
    subst this
    exact ⟨fun _ => h.ownNil recR, fun h => (by cases h)⟩
  | some a =>
    refine ⟨fun h => (by cases h), fun _ => ?_⟩
    refine h.new fun b w1 hS => ?_
    have hS : Sat Γ (.blk b [] 47 :: L) w1 := hS
    have hS := hS.ownZero (R := recR) (k := 0) rfl
    refine hS.apMany (R := recR) (k := 0) rfl hv recTy (by simp; omega) fun A' c' w2 hS => ?_
    exact hS
end
end Go.Proofs.Yticgmchbihakkaa

namespace Go.Den
open Go
section
variable {Γ : List PP} {L : List HP} {w : World}
theorem Sat.ren (h : Sat Γ L w) {L' : List HP} (g r : Nat → Nat) (hg : ∀ i P, L'[i]? = some P → L[g i]? = some P ∧ r (g i) = i) : Sat Γ L' w := by
  obtain ⟨ow, h1, h2, h3⟩ := h.ex
  refine ⟨fun b => match ow b with | .at j => .at (r j) | o => o, fun b hb => by simp only [h1 b hb], fun p hp => p.mono (h2 p hp) fun b _ hb => ?_, fun i Q hi => Q.mono (h3 (g i) Q (hg i Q hi).1) (fun b _ hb => ?_) fun b _ hb => ?_⟩
  · have hb : ow b = .imm := hb
    simp only [hb]
  · have hb : ow b = .imm := hb
    simp only [hb]
  · have hb : ow b = .at (g i) := hb
    simp only [hb, (hg i Q hi).2]
theorem Sat.swap {P Q : HP} (h : Sat Γ (P :: Q :: L) w) : Sat Γ (Q :: P :: L) w := h.ren (fun i => match i with | 0 => 1 | 1 => 0 | i => i) (fun i => match i with | 0 => 1 | 1 => 0 | i => i) fun i R hi => by
  match i with
  | 0 => exact ⟨hi, rfl⟩
  | 1 => exact ⟨hi, rfl⟩
  | i + 2 => exact ⟨hi, rfl⟩
/-- A place that holds nothing is struck. -/
theorem Sat.strike {P Q : HP} (h : Sat Γ (P :: Q :: L) w) : Sat Γ (P :: L) w := h.swap.drop
end
end Go.Den
namespace Go.Proofs.Yticgmchbihakkaa
open Go Go.Den
set_option maxRecDepth 100000
def renG : Nat → List Rec → List Rec
  | _, [] => []
  | i, r :: rs => { r with off := (i : Int) } :: renG (i + 1) rs
theorem renG_get : ∀ (rs : List Rec) (k i : Nat), (renG k rs)[i]? = rs[i]?.map fun r => { r with off := ((k + i : Nat) : Int) }
  | [], k, i => by simp [renG]
  | r :: rs, k, 0 => by simp [renG]
  | r :: rs, k, i + 1 => by simp [renG, renG_get rs (k + 1) i]; rw [show ((k : Int) + 1 + i) = k + (i + 1) by omega]
theorem renG_len : ∀ (rs : List Rec) (k : Nat), (renG k rs).length = rs.length
  | [], k => rfl
  | r :: rs, k => by simp [renG, renG_len rs (k + 1)]
def renU (i : Nat) (rs : List Rec) : List Rec := (renG 0 rs).take i ++ rs.drop i
theorem renU_get (i : Nat) (rs : List Rec) (hi : i < rs.length) : (renU i rs)[i]? = rs[i]? := by
  unfold renU
  have : ((renG 0 rs).take i).length = i := by simp [renG_len]; omega
  rw [List.getElem?_append_right (by omega), this]
  simp
theorem renU_len (i : Nat) (rs : List Rec) (hi : i ≤ rs.length) : (renU i rs).length = rs.length := by simp [renU, renG_len]; omega
theorem renU_set {i : Nat} {rs : List Rec} {x : Rec} (hx : rs[i]? = some x) : (renU i rs).set i { x with off := (i : Int) } = renU (i + 1) rs := by
  have hi : i < rs.length := (List.getElem?_eq_some_iff.1 hx).1
  have h1 : ((renG 0 rs).take i).length = i := by simp [renG_len]; omega
  have h2 : (renG 0 rs)[i]? = some { x with off := (i : Int) } := by rw [renG_get, hx]; simp
  unfold renU
  rw [List.set_append_right _ _ (by omega), h1, Nat.sub_self, List.take_add_one, h2]
  have : rs.drop i = x :: rs.drop (i + 1) := by
    rw [List.drop_eq_getElem_cons hi]
    congr 1
    exact (List.getElem?_eq_some_iff.1 hx).2
  rw [this]
  simp
theorem cells_set {w : World} {I : Nat → Prop} (n : Int) : ∀ {xs : List Rec} {l : List Value} {i : Nat} {x : Rec}, recR.cells w I xs l → xs[i]? = some x → recR.cells w I (xs.set i { x with off := n }) (l.set (i * 6) (vi n))
  | [], l, i, x, h, hx => by simp at hx
  | y :: xs, l, 0, x, ⟨c, l', e, h1, h2⟩, hx => by
    simp at hx; subst hx
    obtain ⟨kv, vv, e1, hk, hv⟩ := h1
    subst e1; subst e
    exact ⟨recC { y with off := n } kv vv, l', rfl, ⟨kv, vv, rfl, hk, hv⟩, h2⟩
  | y :: xs, l, i + 1, x, ⟨c, l', e, h1, h2⟩, hx => by
    have hc : c.length = 6 := recR.len h1
    subst e
    refine ⟨c, l'.set (i * 6) (vi n), ?_, h1, cells_set n h2 (by simpa using hx)⟩
    rw [List.set_append_right _ _ (by omega), hc]
    congr 2; omega
section
variable {Γ : List PP} {L : List HP} {w : World}
theorem _root_.Go.Den.Sat.rowSet (h : Sat Γ L w) {cs : List Value} {xs : List Rec} {i : Nat} {x : Rec} (hm : recR.row cs xs ∈ Γ) (hx : xs[i]? = some x) (n : Int) : Sat (recR.row (cs.set (i * 6) (vi n)) (xs.set i { x with off := n }) :: Γ) L w :=
  h.der hm fun I ⟨l, m, e, h⟩ => by
    refine ⟨l.set (i * 6) (vi n), m, ?_, cells_set n h hx⟩
    have hl := Rp.cells_len h
    have hi := (List.getElem?_eq_some_iff.1 hx).1
    have : recR.sz = 6 := rfl
    rw [e, List.set_append_left _ _ (by rw [hl, this]; omega)]
set_option maxHeartbeats 1000000 in
theorem c25 (h : Sat Γ L w) {k j a m : Nat} {id epoch corr count : Int} {es : List (ME Slot)} {clock : Nat} (hk : L[k]? = some (.blk a (pdC id epoch corr m nilP count) 146)) (hj : L[j]? = some (.obj m (slotO es clock)))
    (t : ByteArray) (part : Int) {v : Value} {rs : List Rec} (hv : recR.sl v rs ∈ Γ) (hl : 0 < rs.length ∧ rs.length ≤ 100) {seq : Int} (hq : slotN es (t, part) = vi seq) {b : Bat} (hb : b = ⟨0, (rs.length : Int) - 1, id, epoch, seq, renG 0 rs⟩) (hc : chk b = 0) :
    Meets Try.prog 25 [ptr a, .string t, vi part, v] w fun v' w' => ∃ q u1 u2, v' = .tuple #[.agg (rqC 4 (IntKind.i64.wrap (corr + 1)) t part 0 0 u1).toArray, vi 0] ∧
      Sat (byt u2 (encB b) :: byt u1 (encB b) :: Γ) (.blk q (rqC 4 (IntKind.i64.wrap (corr + 1)) t part 0 0 u2) 42 :: L.set k (.blk a (pdC id epoch (IntKind.i64.wrap (corr + 1)) m (ptr q) rs.length) 146)) w' := by
  obtain ⟨A, c, rfl, hc1, hc2, hc3⟩ := h.slVal hv
  simp only [maxLen] at hc2
  refine spec_join Try.func25 Try.ntmps25 Try.results25 rfl (by kernel_rfl) rfl (J := [100007]) ?_
  refine h.new fun b8 w1 hS => ?_
  have hS : Sat Γ (.blk b8 rq0 42 :: L) w1 := hS
  have hk1 : ∀ {P : HP}, (P :: L)[k + 1]? = some (.blk a (pdC id epoch corr m nilP count) 146) := fun {P} => hk
  have hj1 : ∀ {P : HP}, (P :: L)[j + 1]? = some (.obj m (slotO es clock)) := fun {P} => hj
  refine ⟨fun h => (by cases h), fun _ => ?_⟩
  refine ⟨_, rfl, _, rfl, _, nilP, ⟨rfl, hS.ld (k := k + 1) hk rfl⟩, ?_⟩
  refine ⟨fun h => (by cases h), fun _ => ?_⟩
  refine ⟨fun hx => ?_, fun _ => ?_⟩
  · have hx : (decide ((rs.length : Int) = 0) || decide ((100 : Int) < rs.length)) = true := hx
    rw [Bool.or_eq_true, decide_eq_true_eq, decide_eq_true_eq] at hx; omega
  have hS := hS.drew
  have el : IntKind.i64.wrap ((rs.length : Int) - 1) = (rs.length : Int) - 1 := w64 (by omega)
  refine ⟨[10], fun vs u => ∃ b10 rv, vs = [ptr b10] ∧ Sat Γ (.blk b10 [vi 0, vi (rs.length - 1 : Int), vi id, vi epoch, vi seq, rv] 32 :: recR.own rv rs :: .blk b8 rq0 42 :: L) u, by kernel_rfl, ⟨hs [0, 1, 2, 3, 4, 5, 6, 7, 8, 9, 10, 11, 12, 13, 15] (.two 14 true (.two 16 true (hs [17] (.one 18 true (.one 19 false .nil))) 18 true (.one 16 true (hs [17] (.one 19 false .nil)))) 18 true (.one 14 true (.one 16 true (hs [17] (.one 19 false .nil))))), fun u => u.heap[a]? = _, by kernel_rfl, by kernel_rfl, hS.blk (k := k + 1) hk, ?_⟩, ?_⟩
  · refine ⟨_, rfl, _, rfl, _, vi id, ⟨rfl, fun u hu => cell_of hu rfl⟩, _, rfl, _, rfl, _, vi epoch, ⟨rfl, fun u hu => cell_of hu rfl⟩, ?_⟩
    have hone : ∀ (A' : Option Addr) (n' c' : Nat), ∀ u ∈ [vi 0, vi (rs.length - 1 : Int), vi id, vi epoch, vi seq, .slice A' n' c'], u.oneCell' = true := fun A' n' c' => one_of rfl
    have last : ∀ {u : World} {b10 : Nat} {A' : Option Addr} {n' c' : Nat}, Sat Γ (.blk b10 zBat 32 :: recR.own (.slice A' n' c') rs :: .blk b8 rq0 42 :: L) u → wrAt u ⟨b10, 0, none⟩ 0 [vi 0, vi (IntKind.i64.wrap ((rs.length : Int) - 1)), vi id, vi epoch, vi seq, .slice A' n' c'] ∧ ∀ u1, u1 = setCells u ⟨b10, 0, none⟩ 0 [vi 0, vi (IntKind.i64.wrap ((rs.length : Int) - 1)), vi id, vi epoch, vi seq, .slice A' n' c'] → ∃ b10' rv, [ptr b10] = [ptr b10'] ∧ Sat Γ (.blk b10' [vi 0, vi (rs.length - 1 : Int), vi id, vi epoch, vi seq, rv] 32 :: recR.own rv rs :: .blk b8 rq0 42 :: L) u1 := by
      intro u b10 A' n' c' hS
      rw [el]
      refine hS.stAll (vs := [vi 0, vi (rs.length - 1 : Int), vi id, vi epoch, vi seq, .slice A' n' c']) (k := 0) rfl rfl (hone A' n' c') fun u1 hS => ?_
      exact ⟨b10, _, rfl, hS⟩
    refine ⟨?_, ?_⟩
    · refine (c29 hS hk1 hj1 t part).mono ?_
      rintro v2 w2 ⟨e2, rfl⟩
      rw [hq] at e2
      subst e2
      refine ⟨hS.blk (k := k + 1) hk1, ?_, ?_⟩
      · refine (c75 hS hv (by omega)).mono ?_
        rintro v3 w3 hS
        obtain ⟨A', c', rfl, _⟩ := hS.ownVal (k := 0) rfl
        refine ⟨hS.blk (k := k + 2) hk, ?_⟩
        refine hS.new fun b10 w4 hS => ?_
        have hS : Sat Γ (.blk b10 zBat 32 :: recR.own (.slice A' rs.length c') rs :: .blk b8 rq0 42 :: L) w4 := hS
        refine ⟨hS.blk (k := k + 3) hk, ?_⟩
        exact last hS
      · refine hS.new fun b10 w4 hS => ?_
        have hS : Sat Γ (.blk b10 zBat 32 :: .blk b8 rq0 42 :: L) w4 := hS
        refine ⟨hS.blk (k := k + 2) hk, ?_⟩
        refine (c75 hS hv (by omega)).mono ?_
        rintro v3 w3 hS
        obtain ⟨A', c', rfl, _⟩ := hS.ownVal (k := 0) rfl
        refine ⟨hS.blk (k := k + 3) hk, ?_⟩
        exact last hS.swap
    · refine hS.new fun b10 w4 hS => ?_
      have hS : Sat Γ (.blk b10 zBat 32 :: .blk b8 rq0 42 :: L) w4 := hS
      refine ⟨hS.blk (k := k + 2) hk, ?_⟩
      refine (c29 hS (k := k + 2) (j := j + 2) hk hj t part).mono ?_
      rintro v2 w2 ⟨e2, rfl⟩
      rw [hq] at e2
      subst e2
      refine ⟨hS.blk (k := k + 2) hk, ?_⟩
      refine (c75 hS hv (by omega)).mono ?_
      rintro v3 w3 hS
      obtain ⟨A', c', rfl, _⟩ := hS.ownVal (k := 0) rfl
      refine ⟨hS.blk (k := k + 3) hk, ?_⟩
      exact last hS.swap
  · rintro _ w2 ⟨b10, rv, rfl, hS⟩
    refine ⟨rfl, ?_⟩
    obtain ⟨A', c', rfl, hc1', hc2', hc3'⟩ := hS.ownVal (k := 1) rfl
    cases A' with
    | none => have := hc3' rfl; omega
    | some a' =>
    obtain ⟨g, cs, rfl, _, _, _, hcl, hS⟩ := hS.ownOpen (R := recR) (k := 1) rfl
    have hsz : recR.sz = 6 := rfl
    rw [hsz] at hcl
    have hS : Sat (recR.row cs rs :: Γ) (.blk b10 [vi 0, vi (rs.length - 1 : Int), vi id, vi epoch, vi seq, .slice (some ⟨g, 0, none⟩) rs.length c'] 32 :: .blk g cs 47 :: .blk b8 rq0 42 :: L) w2 := hS
    refine ⟨_, rfl, _, _, ⟨rfl, cell_of (hS.blk (k := 0) rfl) rfl⟩, ?_⟩
    refine ⟨[56], by kernel_rfl, fun vs u => ∃ (i : Nat) (cs : List Value), vs = [vi i] ∧ i ≤ rs.length ∧ rs.length * 6 ≤ cs.length ∧ Sat (recR.row cs (renU i rs) :: Γ) (.blk b10 [vi 0, vi (rs.length - 1 : Int), vi id, vi epoch, vi seq, .slice (some ⟨g, 0, none⟩) rs.length c'] 32 :: .blk g cs 47 :: .blk b8 rq0 42 :: L) u, fun vs _ => match vs with | [.int _ i] => (rs.length - i).toNat | _ => 0, ⟨0, cs, rfl, by omega, hcl, hS⟩, ?_⟩
    rintro _ w3 ⟨i, cs, rfl, hi, hcl, hS⟩
    refine ⟨rfl, fun hlt => ?_, fun hlt => ?_⟩
    · have hlt : i < rs.length := by
        have h : decide ((i : Int) < rs.length) = true := hlt
        have := of_decide_eq_true h; omega
      have ei : IntKind.i64.wrap ((i : Int) + 1) = ((i + 1 : Nat) : Int) := w64 (by omega)
      obtain ⟨x, hx⟩ : ∃ x, rs[i]? = some x := ⟨_, List.getElem?_eq_getElem hlt⟩
      refine ⟨_, rfl, _, _, ⟨rfl, cell_of (hS.blk (k := 0) rfl) rfl⟩, ⟨g, 0, none⟩, ⟨rfl, by omega, by omega⟩, _, rfl, ?_⟩
      refine hS.stA (k := 1) (i := i * 6) (v := vi i) rfl ?_ (by omega) rfl fun w4 hS => ?_
      · show ((Addr.mk g 0 none).add ((i : Int).toNat * 6)).add 0 = _
        rw [add_mk, add_mk]; simp
      · have hS := hS.rowSet mh ((renU_get i rs hlt).trans hx) (i : Int)
        rw [renU_set hx] at hS
        refine ⟨⟨i + 1, cs.set (i * 6) (vi i), ?_, hlt, by simpa using hcl, hS.keep⟩, ?_⟩
        · show [vi (IntKind.i64.wrap ((i : Int) + 1))] = _
          rw [ei]
        · show (rs.length - IntKind.i64.wrap ((i : Int) + 1)).toNat < (rs.length - (i : Int)).toNat
          rw [ei]; omega
    · have hlt : ¬ i < rs.length := by
        have h : decide ((i : Int) < rs.length) = false := hlt
        have := of_decide_eq_false h; omega
      have hre : renU i rs = renG 0 rs := by
        unfold renU
        rw [List.drop_of_length_le (by omega), List.append_nil, List.take_of_length_le (by rw [renG_len]; omega)]
      rw [hre] at hS
      have hS := hS.rowFreeze (R := recR) (k := 1) (c := c') rfl mh (by rw [renG_len]; exact hc1') hc2'
      rw [renG_len] at hS
      have hS := hS.addp (p := bat (.agg #[vi 0, vi (rs.length - 1 : Int), vi id, vi epoch, vi seq, .slice (some ⟨g, 0, none⟩) rs.length c']) b) fun I _ hI => by
        subst hb
        exact ⟨_, rfl, isRecs_iff.2 (hI _ mh)⟩
      refine ⟨_, _, ⟨rfl, rfl, hS.ldAll (k := 0) rfl⟩, ?_⟩
      have h76 := c76 hS mh
      rw [hc, if_pos rfl] at h76
      have hle : (encB b).length ≤ 65536 := (chk_parts hc).2.1
      refine h76.mono ?_
      rintro _ w4 ⟨u, rfl, hS⟩
      obtain ⟨U, cu, rfl, _⟩ := hS.bytVal mh
      refine ⟨fun h => (by cases h), fun _ => ?_⟩
      refine ⟨_, rfl, _, rfl, _, vi corr, ⟨rfl, hS.ld (k := k + 3) hk rfl⟩, _, rfl, _, rfl, hS.st (k := k + 3) (i := 2) hk (by simp) rfl fun w5 hS => ?_⟩
      have hS := hS.sub (Γ' := byt (.slice U (encB b).length cu) (encB b) :: Γ) fun q hq => by
        rcases List.mem_cons.1 hq with rfl | hq
        · exact mh
        · exact mt (mt (mt (mt hq)))
      have hS : Sat (byt (.slice U (encB b).length cu) (encB b) :: Γ) (.blk b10 [vi 0, vi (rs.length - 1 : Int), vi id, vi epoch, vi seq, .slice (some ⟨g, 0, none⟩) rs.length c'] 32 :: .emp :: .blk b8 rq0 42 :: L.set k (.blk a (pdC id epoch (IntKind.i64.wrap (corr + 1)) m nilP count) 146)) w5 := hS
      have hS := hS.drop.drop
      have hk2 := set_get (Q := .blk a (pdC id epoch (IntKind.i64.wrap (corr + 1)) m nilP count) 146) hk
      refine ⟨_, rfl, _, rfl, _, vi (IntKind.i64.wrap (corr + 1)), ⟨rfl, hS.ld (k := k + 1) hk2 rfl⟩, ?_⟩
      refine hS.stAll (vs := rqC 4 (IntKind.i64.wrap (corr + 1)) t part 0 0 (.slice U (encB b).length cu)) (k := 0) rfl rfl (one_of rfl) fun w6 hS => ?_
      have hS : Sat _ (.blk b8 (rqC 4 (IntKind.i64.wrap (corr + 1)) t part 0 0 (.slice U (encB b).length cu)) 42 :: L.set k (.blk a (pdC id epoch (IntKind.i64.wrap (corr + 1)) m nilP count) 146)) w6 := hS
      refine ⟨_, _, ⟨rfl, rfl, hS.ldAll (k := 0) rfl⟩, ?_⟩
      refine (c77 hS mh (by omega)).mono ?_
      rintro _ w7 ⟨u2, rfl, hS⟩
      obtain ⟨U2, cu2, rfl, _⟩ := hS.bytVal mh
      refine hS.new fun q w8 hS => ?_
      have hS : Sat _ (.blk q rq0 42 :: .blk b8 (rqC 4 (IntKind.i64.wrap (corr + 1)) t part 0 0 (.slice U (encB b).length cu)) 42 :: L.set k (.blk a (pdC id epoch (IntKind.i64.wrap (corr + 1)) m nilP count) 146)) w8 := hS
      refine hS.stAll (vs := rqC 4 (IntKind.i64.wrap (corr + 1)) t part 0 0 (.slice U2 (encB b).length cu2)) (k := 0) rfl rfl (one_of rfl) fun w9 hS => ?_
      refine ⟨_, rfl, _, rfl, hS.st (k := k + 2) (i := 4) hk2 (by simp) rfl fun w10 hS => ?_⟩
      have hk3 := set_get (Q := .blk a (pdC id epoch (IntKind.i64.wrap (corr + 1)) m (ptr q) count) 146) hk
      have hS : Sat _ (.blk q (rqC 4 (IntKind.i64.wrap (corr + 1)) t part 0 0 (.slice U2 (encB b).length cu2)) 42 :: .blk b8 (rqC 4 (IntKind.i64.wrap (corr + 1)) t part 0 0 (.slice U (encB b).length cu)) 42 :: (L.set k (.blk a (pdC id epoch (IntKind.i64.wrap (corr + 1)) m nilP count) 146)).set k (.blk a (pdC id epoch (IntKind.i64.wrap (corr + 1)) m (ptr q) count) 146)) w10 := hS
      rw [List.set_set] at hS
      refine ⟨_, rfl, _, rfl, hS.st (k := k + 2) (i := 5) hk3 (by simp) rfl fun w11 hS => ?_⟩
      have hS : Sat _ (.blk q (rqC 4 (IntKind.i64.wrap (corr + 1)) t part 0 0 (.slice U2 (encB b).length cu2)) 42 :: .blk b8 (rqC 4 (IntKind.i64.wrap (corr + 1)) t part 0 0 (.slice U (encB b).length cu)) 42 :: (L.set k (.blk a (pdC id epoch (IntKind.i64.wrap (corr + 1)) m (ptr q) count) 146)).set k (.blk a (pdC id epoch (IntKind.i64.wrap (corr + 1)) m (ptr q) rs.length) 146)) w11 := hS
      rw [List.set_set] at hS
      refine ⟨_, _, ⟨rfl, rfl, hS.ldAll (k := 1) rfl⟩, ?_⟩
      refine hS.stAll (vs := rqC 4 (IntKind.i64.wrap (corr + 1)) t part 0 0 (.slice U (encB b).length cu)) (k := 1) rfl rfl (one_of rfl) fun w12 hS => ?_
      exact ⟨_, ⟨rfl, hS.ldAll (k := 1) rfl⟩, q, _, _, rfl, hS.strike⟩
end
end Go.Proofs.Yticgmchbihakkaa

namespace Go.Proofs.Yticgmchbihakkaa
open Go Go.Den
set_option maxRecDepth 100000
section
variable {Γ : List PP} {L : List HP} {w : World}
theorem _root_.Go.Den.cellsAt_blk {u : World} {b t : Nat} {cs : List Value} (h : u.heap[b]? = some (.cells cs.toArray t (0, 0))) : cellsAt u ⟨b, 0, none⟩ 0 cs :=
  cellsAt_of fun j v hj => by simp only [add_mk, Nat.zero_add]; exact cell_of h (by simpa using hj)
theorem c25wait (h : Sat Γ L w) {k a m q : Nat} {id epoch corr count : Int} (hk : L[k]? = some (.blk a (pdC id epoch corr m (ptr q) count) 146)) (t : ByteArray) (part : Int) (v : Value) :
    Meets Try.prog 25 [ptr a, .string t, vi part, v] w fun v' w' => v' = .tuple #[.agg rq0.toArray, vi 14] ∧ Sat Γ L w' := by
  refine spec_of Try.func25 Try.ntmps25 Try.results25 rfl (by kernel_rfl) rfl ?_
  refine h.new fun b8 w1 hS => ?_
  have hS : Sat Γ (.blk b8 rq0 42 :: L) w1 := hS
  refine ⟨fun h => (by cases h), fun _ => ?_⟩
  refine ⟨_, rfl, _, rfl, _, ptr q, ⟨rfl, hS.ld (k := k + 1) hk rfl⟩, ?_⟩
  refine ⟨fun _ => ?_, fun h => (by cases h)⟩
  refine ⟨_, _, ⟨rfl, rfl, hS.ldAll (k := 0) rfl⟩, ?_⟩
  refine hS.stAll (vs := rq0) (k := 0) rfl rfl (one_of rfl) fun w3 hS => ?_
  exact ⟨_, ⟨rfl, hS.ldAll (k := 0) rfl⟩, rfl, hS.drop⟩

set_option maxHeartbeats 1000000 in
theorem c28 (h : Sat Γ L w) {k j l a m q : Nat} {id epoch corr count kd qc part off most : Int} {t : ByteArray} {dv : Value} (hk : L[k]? = some (.blk a (pdC id epoch corr m (ptr q) count) 146)) (hj : L[j]? = some (.obj m (slotO [] 0))) (hl : L[l]? = some (.blk q (rqC kd qc t part off most dv) 42)) (hkj : k ≠ j)
    {xo xl xg : Int} {mem lead : ByteArray} {names nums xd : Value} (hn : names.oneCell' = true) (hu : nums.oneCell' = true) (hd : xd.oneCell' = true) :
    Meets Try.prog 28 [ptr a, .agg (rspC qc 0 xo xl xg mem lead names nums xd).toArray] w fun v' w' => v' = .tuple #[vi xo, vi 0] ∧ Sat Γ ((L.set k (.blk a (pdC id epoch corr m nilP count) 146)).set j (.obj m (slotO [((t, part), vi (IntKind.i64.wrap (0 + count)), 0)] 1))) w' := by
  refine spec_of Try.func28 Try.ntmps28 Try.results28 rfl (by kernel_rfl) rfl ?_
  refine h.new fun b3 w1 hS => ?_
  have hS : Sat Γ (.blk b3 (rspC qc 0 xo xl xg mem lead names nums xd) 52 :: L) w1 := hS
  refine ⟨_, rfl, _, _, ⟨rfl, cell_of (hS.blk (k := 0) rfl) rfl⟩, ?_⟩
  refine ⟨fun h => (by cases h), fun _ => ?_⟩
  have hS := hS.drew
  generalize hw2 : w1.drew = w2 at hS
  refine ⟨hs [0, 1, 2, 3, 4, 5, 6, 7, 8, 9, 10, 11, 12, 13, 14, 15, 16, 17] .nil, fun u => u = w2, by kernel_rfl, by kernel_rfl, hw2, ?_⟩
  refine ⟨_, rfl, _, rfl, _, ptr q, ⟨rfl, fun u hu => by rw [hu]; exact hS.ld (k := k + 1) hk rfl⟩, _, fun _ => rfl, _, fun _ => rfl, _, ptr q, fun _ => ⟨rfl, fun u hu => by rw [hu]; exact hS.ld (k := k + 1) hk rfl⟩, _, fun _ => rfl, _, fun _ => rfl, _, vi qc, fun _ => ⟨rfl, fun u hu => by rw [hu]; exact hS.ld (k := l + 1) hl rfl⟩, _, fun _ => rfl, _, vi qc, fun _ => ⟨rfl, fun u hu => by rw [hu]; exact hS.ld (k := 0) rfl rfl⟩, ?_⟩
  rw [hw2]
  refine ⟨fun hc => ?_, fun _ => ?_⟩
  · have hc : (!decide (qc = qc)) = true := hc
    simp at hc
  refine (c79 _ 0).mono ?_
  rintro _ w3 ⟨rfl, rfl⟩
  refine ⟨fun h => (by cases h), fun _ => ?_⟩
  have hS := hS.drew
  refine ⟨hs [0, 1, 2, 3, 4, 5, 6, 7, 8, 9, 10, 11, 12, 13, 14] (.one 15 true (.one 16 false .nil)), fun u => u.heap[a]? = some (.cells (pdC id epoch corr m (ptr q) count).toArray 146 (0, 0)) ∧ u.heap[q]? = some (.cells (rqC kd qc t part off most dv).toArray 42 (0, 0)), by kernel_rfl, by kernel_rfl, ⟨hS.blk (k := k + 1) hk, hS.blk (k := l + 1) hl⟩, ?_⟩
  refine ⟨_, rfl, _, rfl, _, ptr q, ⟨rfl, fun u hu => cell_of hu.1 rfl⟩, _, rfl, _, rfl, _, .string t, ⟨rfl, fun u hu => cell_of hu.2 rfl⟩, _, rfl, _, rfl, _, ptr q, ⟨rfl, fun u hu => cell_of hu.1 rfl⟩, _, rfl, _, rfl, _, vi part, ⟨rfl, fun u hu => cell_of hu.2 rfl⟩, ?_⟩
  refine hS.new fun b6 w4 hS => ?_
  have hS : Sat Γ (.blk b6 [.string ⟨#[]⟩, vi 0] 153 :: .blk b3 (rspC qc 0 xo xl xg mem lead names nums xd) 52 :: L) w4 := hS
  refine ⟨⟨hS.blk (k := k + 2) hk, hS.blk (k := l + 2) hl⟩, ?_⟩
  refine hS.stAll (vs := [.string t, vi part]) (k := 0) rfl rfl (one_of rfl) fun w5 hS => ?_
  refine ⟨_, rfl, _, rfl, hS.st (k := k + 2) (i := 4) hk (by simp) rfl fun w6 hS => ?_⟩
  have hS : Sat Γ (.blk b6 [.string t, vi part] 153 :: .blk b3 (rspC qc 0 xo xl xg mem lead names nums xd) 52 :: L.set k (.blk a (pdC id epoch corr m nilP count) 146)) w6 := hS
  have hk2 := set_get (Q := .blk a (pdC id epoch corr m nilP count) 146) hk
  have hj2 : (L.set k (.blk a (pdC id epoch corr m nilP count) 146))[j]? = some (.obj m (slotO [] 0)) := by rw [List.getElem?_set_ne hkj]; exact hj
  refine ⟨fun h => (by cases h), fun _ => ?_⟩
  have hS := hS.drew
  refine ⟨hs [0, 1, 2, 3, 4, 6, 7, 8, 9] (.two 5 true (hs [10] (.one 11 false (hs [12] (.one 13 false .nil)))) 11 false (hs [12] (.one 5 true (hs [10] (.one 13 false .nil))))), fun u => u.heap[a]? = some (.cells (pdC id epoch corr m nilP count).toArray 146 (0, 0)) ∧ u.heap[b6]? = some (.cells #[.string t, vi part] 153 (0, 0)), by kernel_rfl, by kernel_rfl, ⟨hS.blk (k := k + 2) hk2, hS.blk (k := 0) rfl⟩, ?_⟩
  refine ⟨_, rfl, _, rfl, _, .map (some m), ⟨rfl, fun u hu => cell_of hu.1 rfl⟩, _, [.string t, vi part], ⟨rfl, rfl, fun u hu => cellsAt_blk hu.2⟩, _, rfl, _, rfl, _, vi count, ⟨rfl, fun u hu => cell_of hu.1 rfl⟩, ?_⟩
  have hS : Sat Γ (.blk b6 [.string t, vi part] 153 :: .blk b3 (rspC qc 0 xo xl xg mem lead names nums xd) 52 :: L.set k (.blk a (pdC id epoch corr m nilP count) 146)) w6.drew := hS
  have hm := hS.obj (k := j + 2) hj2
  have hja : (L.set k (.blk a (pdC id epoch corr m nilP count) 146)).set j (.obj m (slotO [((t, part), vi 0, 0)] 1)) = (L.set k (.blk a (pdC id epoch corr m nilP count) 146)).set j (.obj m (slotO [((t, part), vi 0, 0)] 1)) := rfl
  have ent := run_mapEntryNew slotK Try.underlying143 (Try.zeroValue3 _) hm (t, part) rfl
  have hSe := hS.putO (k := j + 2) (o' := slotO [((t, part), vi 0, 0)] 1) hj2 rfl
  have hSe : Sat Γ (.blk b6 [.string t, vi part] 153 :: .blk b3 (rspC qc 0 xo xl xg mem lead names nums xd) 52 :: (L.set k (.blk a (pdC id epoch corr m nilP count) 146)).set j (.obj m (slotO [((t, part), vi 0, 0)] 1))) (w6.drew.putObj m (slotO [((t, part), vi 0, 0)] 1)) := hSe
  have hj3 := set_get (Q := .obj m (slotO [((t, part), vi 0, 0)] 1)) hj2
  have hk3 : ((L.set k (.blk a (pdC id epoch corr m nilP count) 146)).set j (.obj m (slotO [((t, part), vi 0, 0)] 1)))[k]? = some (.blk a (pdC id epoch corr m nilP count) 146) := by rw [List.getElem?_set_ne (Ne.symm hkj)]; exact hk2
  have hm2 := hSe.obj (k := j + 2) hj3
  have sto := run_entryStoreE (P := Try.prog) (enc := slotE) (mt := 143) (l1 := []) (l2 := []) (k := (t, part)) (u := vi 0) (v := vi (IntKind.i64.wrap (0 + count))) (n := 0) hm2 (by simp)
  have hSf := hSe.putO (k := j + 2) (o' := slotO [((t, part), vi (IntKind.i64.wrap (0 + count)), 0)] 1) hj3 rfl
  have hSf : Sat Γ (.blk b6 [.string t, vi part] 153 :: .blk b3 (rspC qc 0 xo xl xg mem lead names nums xd) 52 :: ((L.set k (.blk a (pdC id epoch corr m nilP count) 146)).set j (.obj m (slotO [((t, part), vi 0, 0)] 1))).set j (.obj m (slotO [((t, part), vi (IntKind.i64.wrap (0 + count)), 0)] 1))) ((w6.drew.putObj m (slotO [((t, part), vi 0, 0)] 1)).putObj m (slotO [((t, part), vi (IntKind.i64.wrap (0 + count)), 0)] 1)) := hSf
  rw [List.set_set] at hSf
  have fin : ∀ {u : World}, Sat Γ (.blk b6 [.string t, vi part] 153 :: .blk b3 (rspC qc 0 xo xl xg mem lead names nums xd) 52 :: (L.set k (.blk a (pdC id epoch corr m nilP count) 146)).set j (.obj m (slotO [((t, part), vi (IntKind.i64.wrap (0 + count)), 0)] 1))) u → Sat Γ ((L.set k (.blk a (pdC id epoch corr m nilP count) 146)).set j (.obj m (slotO [((t, part), vi (IntKind.i64.wrap (0 + count)), 0)] 1))) u := fun h => h.drop.drop
  refine ⟨?_, ?_⟩
  · refine ⟨_, _, run_lookupE slotK Try.underlying143 (Try.zeroValue3 _) hm (t, part) false, ?_⟩
    refine ⟨⟨hS.blk (k := k + 2) hk2, hS.blk (k := 0) rfl⟩, ?_⟩
    refine ⟨_, _, ent, ?_⟩
    refine ⟨_, sto, ?_⟩
    refine ⟨_, rfl, _, _, ⟨rfl, cell_of (hSf.blk (k := 1) rfl) rfl⟩, ?_⟩
    exact ⟨rfl, fin hSf⟩
  · refine ⟨_, _, ent, ?_⟩
    have lk := run_lookupE slotK Try.underlying143 (Try.zeroValue3 _) hm2 (t, part) false
    rw [show findE (t, part) [((t, part), vi 0, 0)] 0 = some (0, vi 0) by simp [findE]] at lk
    refine ⟨_, _, lk, ?_⟩
    refine ⟨⟨hSe.blk (k := k + 2) hk3, hSe.blk (k := 0) rfl⟩, ?_⟩
    refine ⟨_, sto, ?_⟩
    refine ⟨_, rfl, _, _, ⟨rfl, cell_of (hSf.blk (k := 1) rfl) rfl⟩, ?_⟩
    exact ⟨rfl, fin hSf⟩
end
end Go.Proofs.Yticgmchbihakkaa

/- Numbers in few bytes: Zag, Get, of the program and of the document's answer. -/
import Derived.Test.YticgmchbihakkaaB1
set_option linter.unusedVariables false
set_option linter.unusedSimpArgs false
namespace Go.Proofs.Yticgmchbihakkaa
open Go Go.Den
set_option maxRecDepth 100000

abbrev vu (n : Nat) : Value := .int .u64 n

/-- A number with its sign, of one without. -/
def zagN (u : Nat) : Int := if u % 2 = 1 then -((u / 2 : Nat) : Int) - 1 else (u / 2 : Nat)

theorem xor_ones (x : Nat) (hx : x < 2 ^ 63) : bitI .xor .i64 (x : Int) (-1) = -(x : Int) - 1 := by
  show IntKind.i64.wrap ((BitVec.ofInt 64 (x : Int) ^^^ BitVec.ofInt 64 (-1)).toNat : Int) = _
  have h1 : BitVec.ofInt 64 (-1) = BitVec.allOnes 64 := by decide
  rw [h1, BitVec.xor_allOnes, BitVec.toNat_not]
  have h2 : (BitVec.ofInt 64 (x : Int)).toNat = x := by
    rw [BitVec.toNat_ofInt]
    omega
  rw [h2, IntKind.wrap_i64]
  omega

theorem f169 (w : World) (u : Nat) (hu : u < 2 ^ 64) : Meets Try.prog 169 [vu u] w fun v' w' => v' = vi (zagN u) ∧ w' = w := by
  refine spec_of Try.func169 Try.ntmps169 Try.results169 rfl (by kernel_rfl) rfl ?_
  refine ⟨by show (0 : Int) ≤ 1; decide, ?_, rfl⟩
  show Value.int .i64 _ = _
  congr 1
  have h1 : shrI .u64 (u : Int) 1 = ((u / 2 : Nat) : Int) := by
    rw [show (1 : Int) = ((1 : Nat) : Int) from rfl, shr_nat _ _ _ (by simp [IntKind.bits]), Nat.shiftRight_eq_div_pow]
  have h2 : bitI .and .u64 (u : Int) 1 = ((u % 2 : Nat) : Int) := by
    rw [show (1 : Int) = ((1 : Nat) : Int) from rfl, and_w _ _ _ (by simpa [IntKind.bits] using hu) (by simp [IntKind.bits]), Nat.and_one_is_mod, wu64]
    omega
  rw [h1, h2, w64n _ (by omega), w64n _ (by omega)]
  unfold zagN
  by_cases h : u % 2 = 1
  · rw [if_pos h, h, w64 (by omega)]
    exact xor_ones _ (by omega)
  · rw [if_neg h, show u % 2 = 0 by omega, w64 (by omega)]
    rw [show (0 : Int) - ((0 : Nat) : Int) = ((0 : Nat) : Int) from rfl, xor_w _ _ _ (by simp [IntKind.bits]; omega) (by simp [IntKind.bits]), Nat.xor_zero]
    exact w64n _ (by omega)

theorem f138 (w : World) (u : Nat) (hu : u < 2 ^ 64) : Meets Try.prog 138 [vu u] w fun v' w' => v' = vi (zagN u) ∧ w' = w := by
  refine spec_of Try.func138 Try.ntmps138 Try.results138 rfl (by kernel_rfl) rfl ?_
  have h1 : ((u : Int).tmod 2) = ((u % 2 : Nat) : Int) := by
    rw [Int.tmod_eq_emod_of_nonneg (by omega)]; omega
  have h2 : IntKind.u64.wrap ((u : Int).tdiv 2) = ((u / 2 : Nat) : Int) := by
    rw [Int.tdiv_eq_ediv_of_nonneg (by omega), wu64]; omega
  refine ⟨by show (2 : Int) ≠ 0; decide, fun h => ?_, fun h => ?_⟩
  · refine ⟨by show (2 : Int) ≠ 0; decide, ?_, rfl⟩
    show Value.int .i64 _ = _
    congr 1
    rw [h1] at h
    have : u % 2 = 1 := by simp at h; omega
    unfold zagN
    rw [if_pos this, h2, w64n _ (by omega), w64 (n := 0 - _) (by omega), w64 (by omega)]
    omega
  · refine ⟨by show (2 : Int) ≠ 0; decide, ?_, rfl⟩
    show Value.int .i64 _ = _
    congr 1
    rw [h1] at h
    have : ¬ u % 2 = 1 := by simp at h; omega
    unfold zagN
    rw [if_neg this, h2, w64n _ (by omega)]

/-- The number that bytes go on with. -/
def getGo : Bytes → Nat → Nat → Option (Nat × Nat)
  | [], _, _ => none
  | c :: l, i, u =>
    if (i = 9 ∧ 1 < c.toNat) ∨ 10 ≤ i then none
    else if 128 ≤ c.toNat then getGo l (i + 1) (u + (c.toNat % 128) * 2 ^ (7 * i))
    else if c.toNat = 0 ∧ 0 < i then none
    else some (u + (c.toNat % 128) * 2 ^ (7 * i), i + 1)
def getN (xs : Bytes) : Option (Int × Nat) := (getGo xs 0 0).map fun x => (zagN x.1, x.2)
def getV (xs : Bytes) : Value := match getN xs with
  | some (n, k) => .tuple #[vi n, vi k, vi 0]
  | none => .tuple #[vi 0, vi 0, vi 2]
def getV' (xs : Bytes) : Value := match getN xs with
  | some (n, k) => .tuple #[vi n, vi k]
  | none => .tuple #[vi 0, vi 0]

theorem or_part (u d i : Nat) (hu : u < 2 ^ (7 * i)) : u ||| (d <<< (7 * i)) = u + d * 2 ^ (7 * i) := by
  rw [Nat.or_comm, ← Nat.shiftLeft_add_eq_or_of_lt hu, Nat.shiftLeft_eq, Nat.add_comm]

/-- One step: what the loops compute. -/
theorem part64 (u i : Nat) (c : UInt8) (hi : i ≤ 9) (hc : i = 9 → c.toNat ≤ 1) (hu : u < 2 ^ (7 * i)) :
    bitI .or .u64 (u : Int) (shlI .u64 (IntKind.u64.wrap (bitI .and .u8 (c.toNat : Int) 127)) (IntKind.i64.wrap (7 * (i : Int)))) = ((u + (c.toNat % 128) * 2 ^ (7 * i) : Nat) : Int) ∧ u + (c.toNat % 128) * 2 ^ (7 * i) < 2 ^ 64 ∧ (i < 9 → u + (c.toNat % 128) * 2 ^ (7 * i) < 2 ^ (7 * (i + 1))) := by
  have hcl := c.toNat_lt
  have h1 : bitI .and .u8 (c.toNat : Int) 127 = ((c.toNat % 128 : Nat) : Int) := by
    rw [show (127 : Int) = ((127 : Nat) : Int) from rfl, and_w _ _ _ (by simp [IntKind.bits]; omega) (by simp [IntKind.bits]), show (127 : Nat) = 2 ^ 7 - 1 from rfl, Nat.and_two_pow_sub_one_eq_mod, wu8]
    omega
  have h2 : IntKind.i64.wrap (7 * (i : Int)) = ((7 * i : Nat) : Int) := by rw [w64 (by omega)]; omega
  have hp : 2 ^ (7 * (i + 1)) = 2 ^ (7 * i) * 128 := by rw [show 7 * (i + 1) = 7 * i + 7 by omega, Nat.pow_add]
  have hlt : i < 9 → u + (c.toNat % 128) * 2 ^ (7 * i) < 2 ^ (7 * (i + 1)) := fun _ => by
    rw [hp]
    have : (c.toNat % 128 + 1) * 2 ^ (7 * i) ≤ 128 * 2 ^ (7 * i) := Nat.mul_le_mul_right _ (by omega)
    rw [Nat.add_mul] at this
    rw [Nat.mul_comm (2 ^ (7 * i)) 128]
    omega
  have h64 : u + (c.toNat % 128) * 2 ^ (7 * i) < 2 ^ 64 := by
    by_cases h : i < 9
    · have h3 := hlt h
      have : 2 ^ (7 * (i + 1)) ≤ 2 ^ 63 := Nat.pow_le_pow_right (by decide) (by omega)
      omega
    · have : i = 9 := by omega
      subst this
      have := hc rfl
      have : (c.toNat % 128) * 2 ^ (7 * 9) ≤ 1 * 2 ^ (7 * 9) := Nat.mul_le_mul_right _ (by omega)
      omega
  have hs : (c.toNat % 128) * 2 ^ (7 * i) < 2 ^ 64 := by omega
  refine ⟨?_, h64, hlt⟩
  rw [h1, h2, wu64, Int.emod_eq_of_lt (by omega) (by omega), shl_nat _ _ _ (by simp [IntKind.bits]; omega), wu64, Nat.shiftLeft_eq, Int.emod_eq_of_lt (by omega) (by omega)]
  rw [or_w _ _ _ (by simp [IntKind.bits]; omega) (by simpa [IntKind.bits] using hs), ← Nat.shiftLeft_eq, or_part _ _ _ hu, wu64, Nat.shiftLeft_eq]
  omega

theorem f136 (w : World) (v : Value) (G : Option Nat) (xs : Bytes) (h : IsB w v G xs) : Meets Try.prog 136 [v] w fun v' w' => v' = getV xs ∧ w' = w := by
  obtain ⟨A, c, rfl, _⟩ := h.val
  have hle := h.le
  refine spec_of Try.func136 Try.ntmps136 Try.results136 rfl (by kernel_rfl) rfl ?_
  refine ⟨[5, 2, 3, 4, 10], by kernel_rfl, fun vs w1 => w1 = w ∧ ∃ j u, j ≤ xs.length ∧ j ≤ 10 ∧ u < 2 ^ 64 ∧ (j < 10 → u < 2 ^ (7 * j)) ∧ getGo xs 0 0 = getGo (xs.drop j) j u ∧ vs = [vu u, vi 0, vi 0, vi 0, vi j], fun vs _ => match vs with | [_, _, _, _, .int _ s] => (xs.length - s).toNat | _ => 0, ?_, ?_⟩
  · exact ⟨rfl, 0, 0, by omega, by omega, by decide, by simp, rfl, rfl⟩
  · rintro _ w2 ⟨rfl, j, u, hj, hj10, hu, hu', hg, rfl⟩
    refine ⟨rfl, fun hlt => ?_, fun hlt => ?_⟩
    · have hj' : j < xs.length := by simp at hlt; omega
      obtain ⟨a', x, e1, e2, e3⟩ := h.at j hj'
      subst e1
      have hxl := x.toNat_lt
      rw [List.drop_eq_getElem_cons hj', getGo] at hg
      have ex : xs[j] = x := by rw [List.getElem?_eq_getElem hj'] at e2; exact Option.some.inj e2
      rw [ex] at hg
      refine ⟨a', ⟨rfl, Int.natCast_nonneg _, by omega⟩, _, _, ⟨rfl, e3⟩, ?_⟩
      refine ⟨fun hc => ?_, fun hc => ?_⟩
      · have hcc : (j = 9 ∧ 1 < x.toNat) ∨ 10 ≤ j := by
          simp at hc
          rcases hc with hc | hc
          · exact .inl (by omega)
          · exact .inr (by omega)
        rw [if_pos hcc] at hg
        refine ⟨?_, rfl⟩
        simp [getV, getN, hg, oneV]
      · have hcc : ¬ ((j = 9 ∧ 1 < x.toNat) ∨ 10 ≤ j) := by
          simp at hc
          omega
        rw [if_neg hcc] at hg
        obtain ⟨p1, p2, p3⟩ := part64 u j x (by omega) (by omega) (hu' (by omega))
        refine ⟨by show (0 : Int) ≤ IntKind.i64.wrap _; rw [w64 (by omega)]; omega, ?_⟩
        refine ⟨fun hd => ?_, fun hd => ?_⟩
        · have hdd : 128 ≤ x.toNat := by simp at hd; omega
          rw [if_pos hdd] at hg
          refine ⟨⟨rfl, j + 1, _, by omega, by omega, p2, fun _ => p3 (by omega), hg, ?_⟩, ?_⟩
          · show [Value.int .u64 _, vi _, vi _, vi _, vi (IntKind.i64.wrap _)] = _
            rw [p1, w64 (by omega)]; rfl
          · show ((xs.length : Int) - IntKind.i64.wrap (_ : Int)).toNat < ((xs.length : Int) - j).toNat
            rw [w64 (by omega)]; omega
        · have hdd : ¬ 128 ≤ x.toNat := by simp at hd; omega
          rw [if_neg hdd] at hg
          refine ⟨fun hf => ?_, fun hf => ?_⟩
          · have hff : x.toNat = 0 ∧ 0 < j := by simp at hf; omega
            rw [if_pos hff] at hg
            refine ⟨?_, rfl⟩
            simp [getV, getN, hg, oneV]
          · have hff : ¬ (x.toNat = 0 ∧ 0 < j) := by simp at hf; omega
            rw [if_neg hff] at hg
            rw [p1]
            refine (f169 w2 _ p2).mono ?_
            rintro _ w ⟨rfl, rfl⟩
            refine ⟨?_, rfl⟩
            simp only [getV, getN, hg, oneV, Option.map_some]
            rw [w64 (by omega)]; rfl
    · have hj' : j = xs.length := by simp at hlt; omega
      rw [List.drop_eq_nil_of_le (by omega), getGo] at hg
      refine ⟨?_, rfl⟩
      simp [getV, getN, hg, oneV]

theorem f95 (w : World) (v : Value) (G : Option Nat) (xs : Bytes) (h : IsB w v G xs) : Meets Try.prog 95 [v] w fun v' w' => v' = getV' xs ∧ w' = w := by
  obtain ⟨A, c, rfl, _⟩ := h.val
  have hle := h.le
  refine spec_of Try.func95 Try.ntmps95 Try.results95 rfl (by kernel_rfl) rfl ?_
  refine ⟨[2, 3, 4, 5], by kernel_rfl, fun vs w1 => w1 = w ∧ ∃ j u, j ≤ xs.length ∧ j ≤ 10 ∧ u < 2 ^ 64 ∧ (j < 10 → u < 2 ^ (7 * j)) ∧ getGo xs 0 0 = getGo (xs.drop j) j u ∧ vs = [vi 0, vi 0, vu u, vi j], fun vs _ => match vs with | [_, _, _, .int _ s] => (xs.length - s).toNat | _ => 0, ?_, ?_⟩
  · exact ⟨rfl, 0, 0, by omega, by omega, by decide, by simp, rfl, rfl⟩
  · rintro _ w2 ⟨rfl, j, u, hj, hj10, hu, hu', hg, rfl⟩
    refine ⟨rfl, fun hlt => ?_, fun hlt => ?_⟩
    · have hj' : j < xs.length ∧ j < 10 := by simp at hlt; omega
      obtain ⟨a', x, e1, e2, e3⟩ := h.at j hj'.1
      subst e1
      have hxl := x.toNat_lt
      rw [List.drop_eq_getElem_cons hj'.1, getGo] at hg
      have ex : xs[j]'hj'.1 = x := by rw [List.getElem?_eq_getElem hj'.1] at e2; exact Option.some.inj e2
      rw [ex] at hg
      refine ⟨a', ⟨rfl, Int.natCast_nonneg _, by omega⟩, _, _, ⟨rfl, e3⟩, ?_⟩
      refine ⟨fun hc => ?_, fun hc => ?_⟩
      · have hcc : (j = 9 ∧ 1 < x.toNat) ∨ 10 ≤ j := by simp at hc; omega
        rw [if_pos hcc] at hg
        refine ⟨?_, rfl⟩
        simp [getV', getN, hg, oneV]
      · have hcc : ¬ ((j = 9 ∧ 1 < x.toNat) ∨ 10 ≤ j) := by simp at hc; omega
        rw [if_neg hcc] at hg
        obtain ⟨p1, p2, p3⟩ := part64 u j x (by omega) (by omega) (hu' (by omega))
        refine ⟨by show (0 : Int) ≤ IntKind.i64.wrap _; rw [w64 (by omega)]; omega, ?_⟩
        refine ⟨fun hd => ?_, fun hd => ?_⟩
        · have hdd : ¬ 128 ≤ x.toNat := by simp at hd; omega
          rw [if_neg hdd] at hg
          refine ⟨fun hf => ?_, fun hf => ?_⟩
          · have hff : x.toNat = 0 ∧ 0 < j := by simp at hf; omega
            rw [if_pos hff] at hg
            refine ⟨?_, rfl⟩
            simp [getV', getN, hg, oneV]
          · have hff : ¬ (x.toNat = 0 ∧ 0 < j) := by simp at hf; omega
            rw [if_neg hff] at hg
            rw [p1]
            refine (f138 w2 _ p2).mono ?_
            rintro _ w ⟨rfl, rfl⟩
            refine ⟨?_, rfl⟩
            simp only [getV', getN, hg, oneV, Option.map_some]
            rw [w64 (by omega)]; rfl
        · have hdd : 128 ≤ x.toNat := by simp at hd; omega
          rw [if_pos hdd] at hg
          refine ⟨⟨rfl, j + 1, _, by omega, by omega, p2, fun _ => p3 (by omega), hg, ?_⟩, ?_⟩
          · show [vi _, vi _, Value.int .u64 _, vi (IntKind.i64.wrap _)] = _
            rw [p1, w64 (by omega)]; rfl
          · show ((xs.length : Int) - IntKind.i64.wrap (_ : Int)).toNat < ((xs.length : Int) - j).toNat
            rw [w64 (by omega)]; omega
    · have hj' : j = xs.length ∨ j = 10 := by simp at hlt; omega
      have hg' : getGo xs 0 0 = none := by
        rw [hg]
        by_cases hjx : j = xs.length
        · rw [List.drop_eq_nil_of_le (by omega), getGo]
        · rw [List.drop_eq_getElem_cons (by omega), getGo, if_pos (by omega)]
      refine ⟨?_, rfl⟩
      simp [getV', getN, hg', oneV]

end Go.Proofs.Yticgmchbihakkaa

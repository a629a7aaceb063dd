/- Sums; numbers in so many bytes (the document's answer). -/
import Derived.Test.YticgmchbihakkaaB3
set_option linter.unusedVariables false
set_option linter.unusedSimpArgs false
namespace Go.Proofs.Yticgmchbihakkaa
open Go Go.Den
set_option maxRecDepth 100000

def crcR (r : Nat) : Nat := if r % 2 = 1 then (r / 2) ^^^ 2197175160 else r / 2
def crcK : Nat → Nat → Nat
  | 0, r => r
  | k + 1, r => crcK k (crcR r)
def crcB (r : Nat) (c : UInt8) : Nat := crcK 8 (r ^^^ c.toNat)
def crcL (r : Nat) (xs : Bytes) : Nat := xs.foldl crcB r
def sum32 (xs : Bytes) : Nat := 4294967295 ^^^ crcL 4294967295 xs

theorem xor32 {x y : Nat} (hx : x < 2 ^ 32) (hy : y < 2 ^ 32) : x ^^^ y < 2 ^ 32 := Nat.xor_lt_two_pow hx hy
theorem crcR_lt {r : Nat} (h : r < 2 ^ 32) : crcR r < 2 ^ 32 := by
  unfold crcR
  split
  · exact xor32 (by omega) (by decide)
  · omega
theorem crcK_lt : ∀ (k : Nat) {r : Nat}, r < 2 ^ 32 → crcK k r < 2 ^ 32
  | 0, r, h => h
  | k + 1, r, h => crcK_lt k (crcR_lt h)
theorem crcB_lt {r : Nat} (c : UInt8) (h : r < 2 ^ 32) : crcB r c < 2 ^ 32 := by
  have := c.toNat_lt
  exact crcK_lt 8 (xor32 h (by omega))
theorem crcL_lt (xs : Bytes) : ∀ {r : Nat}, r < 2 ^ 32 → crcL r xs < 2 ^ 32 := by
  induction xs with
  | nil => intro r h; exact h
  | cons c l ih => intro r h; exact ih (crcB_lt c h)
theorem sum32_lt (xs : Bytes) : sum32 xs < 2 ^ 32 := xor32 (by decide) (crcL_lt xs (by decide))
theorem crcL_snoc (r : Nat) (xs : Bytes) (c : UInt8) : crcL r (xs ++ [c]) = crcB (crcL r xs) c := by simp [crcL]
theorem crcK_succ (k r : Nat) : crcK (k + 1) r = crcR (crcK k r) := by
  induction k generalizing r with
  | zero => rfl
  | succ k ih => exact ih (crcR r)

theorem shr1_32 (r : Nat) : shrI .u32 (r : Int) 1 = ((r / 2 : Nat) : Int) := by
  rw [show (1 : Int) = ((1 : Nat) : Int) from rfl, shr_nat _ _ _ (by simp [IntKind.bits]), Nat.shiftRight_eq_div_pow]
theorem and1_32 (r : Nat) (h : r < 2 ^ 32) : bitI .and .u32 (r : Int) 1 = ((r % 2 : Nat) : Int) := by
  rw [show (1 : Int) = ((1 : Nat) : Int) from rfl, and_w _ _ _ (by simpa [IntKind.bits] using h) (by simp [IntKind.bits]), Nat.and_one_is_mod, wu32]
  omega
theorem xorI_32 (x y : Nat) (hx : x < 2 ^ 32) (hy : y < 2 ^ 32) : bitI .xor .u32 (x : Int) (y : Int) = ((x ^^^ y : Nat) : Int) := by
  have := xor32 hx hy
  rw [xor_w _ _ _ (by simpa [IntKind.bits] using hx) (by simpa [IntKind.bits] using hy), wu32]
  omega

theorem step_prog (r : Nat) (h : r < 2 ^ 32) :
    bitI .xor .u32 (shrI .u32 (r : Int) 1) (bitI .and .u32 2197175160 (IntKind.u32.wrap (0 - bitI .and .u32 (r : Int) 1))) = ((crcR r : Nat) : Int) := by
  rw [shr1_32, and1_32 r h]
  unfold crcR
  by_cases h1 : r % 2 = 1
  · rw [if_pos h1, h1]
    have e : bitI .and .u32 2197175160 (IntKind.u32.wrap (0 - ((1 : Nat) : Int))) = ((2197175160 : Nat) : Int) := by decide
    rw [e]
    exact xorI_32 _ _ (by omega) (by decide)
  · rw [if_neg h1, show r % 2 = 0 by omega]
    have e : bitI .and .u32 2197175160 (IntKind.u32.wrap (0 - ((0 : Nat) : Int))) = ((0 : Nat) : Int) := by decide
    rw [e, xorI_32 _ _ (by omega) (by decide), Nat.xor_zero]

theorem f206 (w : World) (r : Nat) (c : UInt8) (h : r < 2 ^ 32) : Meets Try.prog 206 [vw r, bv c] w fun v' w' => v' = vw (crcB r c) ∧ w' = w := by
  have hc := c.toNat_lt
  refine spec_of Try.func206 Try.ntmps206 Try.results206 rfl (by kernel_rfl) rfl ?_
  have h0 : r ^^^ c.toNat < 2 ^ 32 := xor32 h (by omega)
  refine ⟨[0, 9], by kernel_rfl, fun vs w1 => w1 = w ∧ ∃ j, j ≤ 8 ∧ vs = [vw (crcK j (r ^^^ c.toNat)), vi j], fun vs _ => match vs with | [_, .int _ j] => (8 - j).toNat | _ => 0, ?_, ?_⟩
  · refine ⟨rfl, 0, by omega, ?_⟩
    show [Value.int .u32 (bitI .xor .u32 (r : Int) (IntKind.u32.wrap (c.toNat : Int))), vi 0] = _
    rw [wu32, Int.emod_eq_of_lt (by omega) (by omega), xorI_32 _ _ h (by omega)]
    rfl
  · rintro _ w1 ⟨rfl, j, hj, rfl⟩
    refine ⟨rfl, fun hlt => ?_, fun hlt => ?_⟩
    · have hj' : j < 8 := by simp at hlt; omega
      refine ⟨by show (0 : Int) ≤ 1; decide, ⟨rfl, j + 1, by omega, ?_⟩, ?_⟩
      · show [Value.int .u32 _, vi (IntKind.i64.wrap _)] = _
        rw [step_prog _ (crcK_lt j h0), w64 (by omega), crcK_succ]; rfl
      · show ((8 : Int) - IntKind.i64.wrap (_ : Int)).toNat < ((8 : Int) - j).toNat
        rw [w64 (by omega)]; omega
    · have hj' : j = 8 := by simp at hlt; omega
      subst hj'
      exact ⟨rfl, rfl⟩

theorem not32 (x : Nat) (h : x < 2 ^ 32) : bitI .xor .u32 4294967295 (x : Int) = ((4294967295 ^^^ x : Nat) : Int) := xorI_32 4294967295 x (by decide) h

theorem f189 (w : World) (s : Nat) (v : Value) (G : Option Nat) (xs : Bytes) (hs : s < 2 ^ 32) (h : IsB w v G xs) :
    Meets Try.prog 189 [vw s, v] w fun v' w' => v' = vw (4294967295 ^^^ crcL (4294967295 ^^^ s) xs) ∧ w' = w := by
  obtain ⟨A, c, rfl, _⟩ := h.val
  have hle := h.le
  refine spec_of Try.func189 Try.ntmps189 Try.results189 rfl (by kernel_rfl) rfl ?_
  have h0 : 4294967295 ^^^ s < 2 ^ 32 := xor32 (by decide) hs
  refine ⟨[5, 12], by kernel_rfl, fun vs w1 => w1 = w ∧ ∃ j, j ≤ xs.length ∧ vs = [vw (crcL (4294967295 ^^^ s) (xs.take j)), vi j], fun vs _ => match vs with | [_, .int _ j] => (xs.length - j).toNat | _ => 0, ?_, ?_⟩
  · refine ⟨rfl, 0, by omega, ?_⟩
    show [Value.int .u32 (bitI .xor .u32 4294967295 (s : Int)), vi 0] = _
    rw [not32 s hs]; rfl
  · rintro _ w1 ⟨rfl, j, hj, rfl⟩
    refine ⟨rfl, fun hlt => ?_, fun hlt => ?_⟩
    · have hj' : j < xs.length := by simp at hlt; omega
      obtain ⟨a', x, e1, e2, e3⟩ := h.at j hj'
      subst e1
      have ht : xs.take (j + 1) = xs.take j ++ [x] := by rw [List.take_add_one, e2]; rfl
      refine ⟨a', ⟨rfl, Int.natCast_nonneg _, by omega⟩, _, _, ⟨rfl, e3⟩, ?_⟩
      refine (f206 w1 _ x (crcL_lt _ h0)).mono ?_
      rintro _ w1 ⟨rfl, rfl⟩
      refine ⟨⟨rfl, j + 1, by omega, ?_⟩, ?_⟩
      · show [vw _, vi (IntKind.i64.wrap _)] = _
        rw [w64 (by omega), ht, crcL_snoc]; rfl
      · show ((xs.length : Int) - IntKind.i64.wrap (_ : Int)).toNat < ((xs.length : Int) - j).toNat
        rw [w64 (by omega)]; omega
    · have hj' : j = xs.length := by simp at hlt; omega
      subst hj'
      rw [List.take_length]
      refine ⟨?_, rfl⟩
      show Value.int .u32 (bitI .xor .u32 4294967295 _) = _
      rw [not32 _ (crcL_lt _ h0)]

/-- crc.Sum of one slice of bytes: in a list that was just built. -/
theorem f167 (w : World) (b : Nat) (v : Value) (G : Option Nat) (xs : Bytes) (h : IsB w v G xs) (hb : w.heap[b]? = some (.cells #[v] 22 (0, 0))) :
    Meets Try.prog 167 [.slice (some ⟨b, 0, none⟩) 1 1] w fun v' w' => v' = vw (sum32 xs) ∧ w' = w := by
  obtain ⟨A, c, rfl, _⟩ := h.val
  refine spec_of Try.func167 Try.ntmps167 Try.results167 rfl (by kernel_rfl) rfl ?_
  refine ⟨[2, 7], by kernel_rfl, fun vs w1 => w1 = w ∧ ((vs = [vw 0, vi 0]) ∨ vs = [vw (sum32 xs), vi 1]), fun vs _ => match vs with | [_, .int _ j] => (1 - j).toNat | _ => 0, ?_, ?_⟩
  · exact ⟨rfl, .inl rfl⟩
  · rintro _ w1 ⟨rfl, rfl | rfl⟩
    · refine ⟨rfl, fun hlt => ?_, fun hlt => (by cases hlt)⟩
      refine ⟨_, ⟨rfl, by decide, by decide⟩, _, _, ⟨rfl, cell_of hb rfl⟩, ?_⟩
      refine (f189 w1 0 _ G xs (by decide) h).mono ?_
      rintro _ w1 ⟨rfl, rfl⟩
      exact ⟨⟨rfl, .inr rfl⟩, by show ((1 : Int) - IntKind.i64.wrap ((0 : Int) + 1)).toNat < ((1 : Int) - 0).toNat; decide⟩
    · refine ⟨rfl, fun hlt => (by cases hlt), fun hlt => ?_⟩
      exact ⟨rfl, rfl⟩


theorem f160 (w : World) (r : Nat) (v : Value) (G : Option Nat) (xs : Bytes) (hr : r < 2 ^ 32) (h : IsB w v G xs) :
    Meets Try.prog 160 [vw r, v] w fun v' w' => v' = vw (crcL r xs) ∧ w' = w := by
  obtain ⟨A, c, rfl, _⟩ := h.val
  have hle := h.le
  refine spec_of Try.func160 Try.ntmps160 Try.results160 rfl (by kernel_rfl) rfl ?_
  refine ⟨[0, 5], by kernel_rfl, fun vs w1 => w1 = w ∧ ∃ j, j ≤ xs.length ∧ vs = [vw (crcL r (xs.take j)), vi j], fun vs _ => match vs with | [_, .int _ j] => (xs.length - j).toNat | _ => 0, ?_, ?_⟩
  · exact ⟨rfl, 0, by omega, rfl⟩
  · rintro _ w1 ⟨rfl, j, hj, rfl⟩
    refine ⟨rfl, fun hlt => ?_, fun hlt => ?_⟩
    · have hj' : j < xs.length := by simp at hlt; omega
      obtain ⟨a', x, e1, e2, e3⟩ := h.at j hj'
      subst e1
      have hx := x.toNat_lt
      have ht : xs.take (j + 1) = xs.take j ++ [x] := by rw [List.take_add_one, e2]; rfl
      have hcl := crcL_lt (xs.take j) hr
      have h0 : crcL r (xs.take j) ^^^ x.toNat < 2 ^ 32 := xor32 hcl (by omega)
      refine ⟨a', ⟨rfl, Int.natCast_nonneg _, by omega⟩, _, _, ⟨rfl, e3⟩, ?_⟩
      refine ⟨[0, 6], by kernel_rfl, fun vs w2 => w2 = w1 ∧ ∃ k, k ≤ 8 ∧ vs = [vw (crcK k (crcL r (xs.take j) ^^^ x.toNat)), vi k], fun vs _ => match vs with | [_, .int _ j] => (8 - j).toNat | _ => 0, ?_, ?_⟩
      · refine ⟨rfl, 0, by omega, ?_⟩
        show [Value.int .u32 (bitI .xor .u32 _ (IntKind.u32.wrap (x.toNat : Int))), vi 0] = _
        rw [wu32, Int.emod_eq_of_lt (by omega) (by omega), xorI_32 _ _ hcl (by omega)]
        rfl
      · rintro _ w2 ⟨rfl, k, hk, rfl⟩
        have hkl := crcK_lt k h0
        refine ⟨rfl, fun hlt => ?_, fun hlt => ?_⟩
        · have hk' : k < 8 := by simp at hlt; omega
          refine ⟨fun ho => ?_, fun ho => ?_⟩
          · have : crcK k (crcL r (xs.take j) ^^^ x.toNat) % 2 = 1 := by
              rw [and1_32 _ hkl] at ho
              simp at ho; omega
            refine ⟨by show (0 : Int) ≤ 1; decide, ⟨rfl, k + 1, by omega, ?_⟩, ?_⟩
            · show [Value.int .u32 _, vi (IntKind.i64.wrap _)] = _
              rw [shr1_32, show (2197175160 : Int) = ((2197175160 : Nat) : Int) from rfl, xorI_32 _ _ (by omega) (by decide), w64 (by omega), crcK_succ, crcR, if_pos this]; rfl
            · show ((8 : Int) - IntKind.i64.wrap (_ : Int)).toNat < ((8 : Int) - k).toNat
              rw [w64 (by omega)]; omega
          · have : ¬ crcK k (crcL r (xs.take j) ^^^ x.toNat) % 2 = 1 := by
              rw [and1_32 _ hkl] at ho
              simp at ho; omega
            refine ⟨by show (0 : Int) ≤ 1; decide, ⟨rfl, k + 1, by omega, ?_⟩, ?_⟩
            · show [Value.int .u32 _, vi (IntKind.i64.wrap _)] = _
              rw [shr1_32, w64 (by omega), crcK_succ, crcR, if_neg this]; rfl
            · show ((8 : Int) - IntKind.i64.wrap (_ : Int)).toNat < ((8 : Int) - k).toNat
              rw [w64 (by omega)]; omega
        · have hk' : k = 8 := by simp at hlt; omega
          subst hk'
          refine ⟨⟨rfl, j + 1, by omega, ?_⟩, ?_⟩
          · show [vw _, vi (IntKind.i64.wrap _)] = _
            rw [w64 (by omega), ht, crcL_snoc]; rfl
          · show ((xs.length : Int) - IntKind.i64.wrap (_ : Int)).toNat < ((xs.length : Int) - j).toNat
            rw [w64 (by omega)]; omega
    · have hj' : j = xs.length := by simp at hlt; omega
      subst hj'
      rw [List.take_length]
      exact ⟨rfl, rfl⟩

theorem f126 (w : World) (v : Value) (G : Option Nat) (xs : Bytes) (h : IsB w v G xs) :
    Meets Try.prog 126 [v] w fun v' w' => v' = vw (sum32 xs) ∧ w' = w := by
  obtain ⟨A, c, rfl, _⟩ := h.val
  refine spec_of Try.func126 Try.ntmps126 Try.results126 rfl (by kernel_rfl) rfl ?_
  refine (f160 w 4294967295 _ G xs (by decide) h).mono ?_
  rintro _ w1 ⟨rfl, rfl⟩
  refine ⟨?_, rfl⟩
  show Value.int .u32 (bitI .xor .u32 4294967295 _) = _
  rw [not32 _ (crcL_lt _ (by decide))]; rfl

theorem f119 (w : World) (v : Value) (G : Option Nat) (xs : Bytes) (h : IsB w v G xs) (hl : xs.length ≤ 8) :
    Meets Try.prog 119 [v] w fun v' w' => v' = vi (IntKind.i64.wrap (beN xs)) ∧ w' = w := by
  obtain ⟨A, c, rfl, _⟩ := h.val
  refine spec_of Try.func119 Try.ntmps119 Try.results119 rfl (by kernel_rfl) rfl ?_
  refine ⟨[3, 4], by kernel_rfl, fun vs w1 => w1 = w ∧ ∃ j, j ≤ xs.length ∧ vs = [vu (beN (xs.take j)), vi j], fun vs _ => match vs with | [_, .int _ j] => (xs.length - j).toNat | _ => 0, ?_, ?_⟩
  · exact ⟨rfl, 0, by omega, rfl⟩
  · rintro _ w1 ⟨rfl, j, hj, rfl⟩
    refine ⟨rfl, fun hlt => ?_, fun hlt => ?_⟩
    · have hj' : j < xs.length := by simp at hlt; omega
      obtain ⟨a', x, e1, e2, e3⟩ := h.at j hj'
      subst e1
      have hx := x.toNat_lt
      have ht : xs.take (j + 1) = xs.take j ++ [x] := by rw [List.take_add_one, e2]; rfl
      have hb0 := beN_lt (xs.take j)
      have hjl : (xs.take j).length = j := by simp; omega
      rw [hjl] at hb0
      have hb7 : beN (xs.take j) < 2 ^ 56 := Nat.lt_of_lt_of_le hb0 (by
        have : 256 ^ j ≤ 256 ^ 7 := Nat.pow_le_pow_right (by decide) (by omega)
        simpa using this)
      refine ⟨by show (0 : Int) ≤ 8; decide, a', ⟨rfl, Int.natCast_nonneg _, by omega⟩, _, _, ⟨rfl, e3⟩, ⟨rfl, j + 1, by omega, ?_⟩, ?_⟩
      · show [Value.int .u64 (bitI .or .u64 (shlI .u64 (beN (xs.take j) : Int) 8) (IntKind.u64.wrap (x.toNat : Int))), vi (IntKind.i64.wrap _)] = _
        have : shlI .u64 (beN (xs.take j) : Int) 8 = ((beN (xs.take j) <<< 8 : Nat) : Int) := by
          rw [show (8 : Int) = ((8 : Nat) : Int) from rfl, shl_nat _ _ _ (by simp [IntKind.bits]), Nat.shiftLeft_eq, wu64]
          omega
        rw [this, wu64, Int.emod_eq_of_lt (by omega) (by omega), or_w _ _ _ (by rw [Nat.shiftLeft_eq]; simp [IntKind.bits]; omega) (by simp [IntKind.bits]; omega), or_byte, wu64, w64 (by omega), ht, beN_snoc, Int.emod_eq_of_lt (by omega) (by omega)]
        rfl
      · show ((xs.length : Int) - IntKind.i64.wrap (_ : Int)).toNat < ((xs.length : Int) - j).toNat
        rw [w64 (by omega)]; omega
    · have hj' : j = xs.length := by simp at hlt; omega
      subst hj'
      rw [List.take_length]
      exact ⟨rfl, rfl⟩

end Go.Proofs.Yticgmchbihakkaa

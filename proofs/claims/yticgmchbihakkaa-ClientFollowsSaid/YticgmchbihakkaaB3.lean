/- Numbers in few bytes: Zig, Put; sums. -/
import Derived.Test.YticgmchbihakkaaB2
set_option linter.unusedVariables false
set_option linter.unusedSimpArgs false
namespace Go.Proofs.Yticgmchbihakkaa
open Go Go.Den
set_option maxRecDepth 100000

abbrev vw (n : Nat) : Value := .int .u32 n

/-- A number without a sign, of one with. -/
def zigN (n : Int) : Nat := if n < 0 then (2 * (-(n + 1)) + 1).toNat else (2 * n).toNat

def i64R (n : Int) : Prop := -9223372036854775808 ≤ n ∧ n ≤ 9223372036854775807

theorem zigN_lt (n : Int) (h : i64R n) : zigN n < 2 ^ 64 := by
  unfold zigN
  unfold i64R at h
  split <;> omega

theorem xor_ones64 (x : Nat) (hx : x < 2 ^ 64) : bitI .xor .u64 (x : Int) 18446744073709551615 = ((18446744073709551615 - x : Nat) : Int) := by
  show IntKind.u64.wrap ((BitVec.ofInt 64 (x : Int) ^^^ BitVec.ofInt 64 18446744073709551615).toNat : Int) = _
  have h1 : BitVec.ofInt 64 18446744073709551615 = BitVec.allOnes 64 := by decide
  rw [h1, BitVec.xor_allOnes, BitVec.toNat_not]
  have h2 : (BitVec.ofInt 64 (x : Int)).toNat = x := by
    rw [BitVec.toNat_ofInt]
    omega
  rw [h2, wu64]
  omega

theorem f188 (w : World) (n : Int) (h : i64R n) : Meets Try.prog 188 [vi n] w fun v' w' => v' = vu (zigN n) ∧ w' = w := by
  refine spec_of Try.func188 Try.ntmps188 Try.results188 rfl (by kernel_rfl) rfl ?_
  refine ⟨by show (0 : Int) ≤ 1; decide, by show (0 : Int) ≤ 63; decide, ?_, rfl⟩
  show Value.int .u64 _ = _
  congr 1
  unfold i64R at h
  have h63 : shrI .i64 n 63 = n / 9223372036854775808 := by
    unfold shrI
    rw [Int.fdiv_eq_ediv_of_nonneg _ (Int.le_of_lt (Int.pow_pos (by decide)))]
    rfl
  have hsh : ∀ x : Nat, x < 2 ^ 64 → shlI .u64 (x : Int) 1 = ((2 * x % 18446744073709551616 : Nat) : Int) := fun x hx => by
    rw [show (1 : Int) = ((1 : Nat) : Int) from rfl, shl_nat _ _ _ (by simp [IntKind.bits]), wu64, Nat.shiftLeft_eq]
    omega
  unfold zigN
  by_cases hn : n < 0
  · rw [if_pos hn, h63]
    have e1 : IntKind.u64.wrap n = ((n + 18446744073709551616).toNat : Int) := by rw [wu64]; omega
    have e2 : IntKind.u64.wrap (n / 9223372036854775808) = 18446744073709551615 := by rw [wu64]; omega
    rw [e1, e2, hsh _ (by omega), xor_ones64 _ (by omega)]
    omega
  · rw [if_neg hn, h63]
    have e1 : IntKind.u64.wrap n = (n.toNat : Int) := by rw [wu64]; omega
    have e2 : IntKind.u64.wrap (n / 9223372036854775808) = ((0 : Nat) : Int) := by rw [wu64]; omega
    rw [e1, e2, hsh _ (by omega), xor_w _ _ _ (by simp [IntKind.bits]; omega) (by simp [IntKind.bits]), Nat.xor_zero, wu64]
    omega

theorem f186 (w : World) (n : Int) (h : i64R n) : Meets Try.prog 186 [vi n] w fun v' w' => v' = vu (zigN n) ∧ w' = w := by
  refine spec_of Try.func186 Try.ntmps186 Try.results186 rfl (by kernel_rfl) rfl ?_
  unfold i64R at h
  refine ⟨fun hc => ?_, fun hc => ?_⟩
  · refine ⟨?_, rfl⟩
    have hn : n < 0 := by simpa using hc
    show Value.int .u64 _ = _
    congr 1
    unfold zigN
    rw [if_pos hn, w64 (n := n + 1) (by omega), w64 (by omega), wu64, wu64, wu64]
    omega
  · refine ⟨?_, rfl⟩
    have hn : ¬ n < 0 := by simpa using hc
    show Value.int .u64 _ = _
    congr 1
    unfold zigN
    rw [if_neg hn, wu64, wu64]
    omega

/-- A number without a sign as bytes. -/
def putU (u : Nat) : Bytes := if h : u < 128 then [UInt8.ofNat u] else UInt8.ofNat (u % 128 + 128) :: putU (u / 128)
termination_by u
decreasing_by omega
/-- A number as bytes. -/
def putN (n : Int) : Bytes := putU (zigN n)

theorem putU_len : ∀ (k u : Nat), u < 2 ^ (7 * (k + 1)) → (putU u).length ≤ k + 1
  | 0, u, h => by rw [putU, dif_pos (by simpa using h)]; simp
  | k + 1, u, h => by
    rw [putU]
    split
    · simp
    · have : u / 128 < 2 ^ (7 * (k + 1)) := by
        rw [Nat.div_lt_iff_lt_mul (by decide)]
        have e : 2 ^ (7 * (k + 1 + 1)) = 2 ^ (7 * (k + 1)) * 128 := by rw [show 7 * (k + 1 + 1) = 7 * (k + 1) + 7 by omega, Nat.pow_add]
        omega
      have := putU_len k _ this
      simp; omega
theorem putU_len10 (u : Nat) (h : u < 2 ^ 64) : (putU u).length ≤ 10 := putU_len 9 u (Nat.lt_of_lt_of_le h (by decide))
theorem putN_len (n : Int) (h : i64R n) : (putN n).length ≤ 10 := putU_len10 _ (zigN_lt n h)
theorem putU_ne (u : Nat) : putU u ≠ [] := by rw [putU]; split <;> simp

theorem or128 (u : Nat) : (.int .u8 (bitI .or .u8 (IntKind.u8.wrap (u : Int)) 128) : Value) = bv (UInt8.ofNat (u % 128 + 128)) := by
  have h : ∀ a < 256, a ||| 128 = a % 128 + 128 := by decide
  have e : IntKind.u8.wrap (u : Int) = ((u % 256 : Nat) : Int) := by rw [wu8]; omega
  rw [e, show (128 : Int) = ((128 : Nat) : Int) from rfl, or_w _ _ _ (by simp [IntKind.bits]; omega) (by simp [IntKind.bits]), h _ (by omega), bv_ofNat, wu8]
  congr 1
  omega

/-- What is new and read: a slice that a function made. -/
def MadeB (w w' : World) (v : Value) (xs : Bytes) : Prop := OwnB w' 5 v xs ∧ Fr None w w' ∧ ∀ b, v.ownBlock = some b → w.heap.size ≤ b

theorem MadeB.isB {w w' : World} {v : Value} {xs : Bytes} (h : MadeB w w' v xs) : IsB w' v v.ownBlock xs := .of h.1

/-- append(v, one byte): v was made since w0. -/
theorem made_byte {w0 w w2 : World} {v : Value} {xs : Bytes} (h : MadeB w0 w v xs) {x : UInt8} {u : Value} (hu : u = bv x) {b : Nat} (hb : b = w.heap.size) (hw : w2 = w.alloc (.cells [u].toArray 5)) (hm : xs.length ≤ 140737488355327) :
    ∃ A' c' w', (Builtin.append_ #[22, 22] 22 #[v, .slice (some ⟨b, 0, none⟩) 1 1]).run Try.prog w2 = .ok (.slice A' (xs.length + 1) c') w' ∧ MadeB w0 w' (.slice A' (xs.length + 1) c') (xs ++ [x]) := by
  obtain ⟨g1, g2, g3, g4⟩ := new_of hb hw
  have ho2 : OwnB w2 5 v xs := h.1.fr g2 (fun _ _ _ => id)
  obtain ⟨A', c', w3, r1, r2, r3, r4⟩ := ap_byte byteTy ho2 hu g1 hm 22
  refine ⟨A', c', w3, r1, r2, ?_, ?_⟩
  · exact (h.2.1.more g2).trans r3 (fun _ _ h => h.elim) fun i hi e => absurd (h.2.2 i e) (by omega)
  · intro b' hb'
    have := h.2.1.size
    rcases r4 with r4 | r4
    · exact h.2.2 b' (r4 ▸ hb')
    · rw [r4] at hb'
      have : w2.heap.size = b' := Option.some.inj hb'
      omega
/-- append(v, bytes...). -/
theorem made_bytes2 {w0 w : World} {v : Value} {xs : Bytes} (h : MadeB w0 w v xs) {A : Option Addr} {n c : Nat} {G : Option Nat} {ys : Bytes} (hx : IsB w (.slice A n c) G ys) (hm : xs.length + ys.length ≤ 140737488355327) :
    ∃ A' c' w', (Builtin.append_ #[22, 22] 22 #[v, .slice A n c]).run Try.prog w = .ok (.slice A' (xs.length + n) c') w' ∧ MadeB w0 w' (.slice A' (xs.length + n) c') (xs ++ ys) ∧ Fr (fun k => v.ownBlock = some k) w w' := by
  obtain ⟨A1, c1, e, h1, h2, h3, h4⟩ := hx.val
  cases e
  obtain ⟨A', c', w3, r1, r2, r3, r4⟩ := ap_bytes byteTy h.1 (c := c) h2 h1 (by omega) 22
  refine ⟨A', c', w3, r1, ⟨r2, ?_, ?_⟩, r3⟩
  · exact h.2.1.trans r3 (fun _ _ h => h.elim) fun i hi e => absurd (h.2.2 i e) (by omega)
  · intro b' hb'
    have := h.2.1.size
    rcases r4 with r4 | r4
    · exact h.2.2 b' (r4 ▸ hb')
    · rw [r4] at hb'
      have : w.heap.size = b' := Option.some.inj hb'
      omega
theorem made_bytes {w0 w : World} {v : Value} {xs : Bytes} (h : MadeB w0 w v xs) {A : Option Addr} {n c : Nat} {G : Option Nat} {ys : Bytes} (hx : IsB w (.slice A n c) G ys) (hm : xs.length + ys.length ≤ 140737488355327) :
    ∃ A' c' w', (Builtin.append_ #[22, 22] 22 #[v, .slice A n c]).run Try.prog w = .ok (.slice A' (xs.length + n) c') w' ∧ MadeB w0 w' (.slice A' (xs.length + n) c') (xs ++ ys) := by
  obtain ⟨A', c', w', h1, h2, _⟩ := made_bytes2 h hx hm
  exact ⟨A', c', w', h1, h2⟩
theorem made_nil (w : World) : MadeB w w (.slice none 0 0) [] := ⟨Own.nil w 5 1, Fr.refl _ _, by intro b h; cases h⟩

theorem f165 (w : World) (n : Int) (h : i64R n) : Meets Try.prog 165 [vi n] w fun v' w' => MadeB w w' v' (putN n) := by
  refine spec_of Try.func165 Try.ntmps165 Try.results165 rfl (by kernel_rfl) rfl ?_
  refine (f188 w n h).mono ?_
  rintro _ w ⟨rfl, rfl⟩
  have hz := zigN_lt n h
  have hlen := putN_len n h
  refine ⟨[2, 3], by kernel_rfl, fun vs w1 => ∃ sl xs u, vs = [sl, vu u] ∧ u < 2 ^ 64 ∧ MadeB w w1 sl xs ∧ xs ++ putU u = putN n, fun vs _ => match vs with | [_, .int _ u] => u.toNat | _ => 0, ?_, ?_⟩
  · exact ⟨_, [], _, rfl, hz, made_nil w, rfl⟩
  · rintro _ w1 ⟨sl, xs, u, rfl, hu, hm, he⟩
    have hle : xs.length + (putU u).length ≤ 10 := by rw [← List.length_append, he]; exact hlen
    refine ⟨rfl, fun hc => ?_, fun hc => ?_⟩
    · have hu' : ¬ u < 128 := by simp at hc; omega
      intro b w2 hb hw2
      obtain ⟨A', c', w3, r1, r2⟩ := made_byte hm (or128 u) hb hw2 (by omega)
      refine ⟨_, w3, r1, by show (0 : Int) ≤ 7; decide, ?_⟩
      have e : shrI .u64 (u : Int) 7 = ((u / 128 : Nat) : Int) := by
        rw [show (7 : Int) = ((7 : Nat) : Int) from rfl, shr_nat _ _ _ (by simp [IntKind.bits]), Nat.shiftRight_eq_div_pow]
      refine ⟨⟨_, _, u / 128, ?_, by omega, r2, ?_⟩, ?_⟩
      · show [_, Value.int .u64 (shrI .u64 (u : Int) 7)] = _
        rw [e]
      · rw [← he, putU.eq_def u, dif_neg hu', List.append_assoc]; rfl
      · show (shrI .u64 (u : Int) 7).toNat < (u : Int).toNat
        rw [e]; omega
    · have hu' : u < 128 := by simp at hc; omega
      intro b w2 hb hw2
      obtain ⟨A', c', w3, r1, r2⟩ := made_byte hm (bv_wrap u) hb hw2 (by omega)
      refine ⟨_, w3, r1, ?_⟩
      rw [putU, dif_pos hu'] at he
      rw [← he]
      exact r2

theorem f159 (w : World) (n : Int) (h : i64R n) : Meets Try.prog 159 [vi n] w fun v' w' => MadeB w w' v' (putN n) := by
  refine spec_of Try.func159 Try.ntmps159 Try.results159 rfl (by kernel_rfl) rfl ?_
  refine (f186 w n h).mono ?_
  rintro _ w ⟨rfl, rfl⟩
  have hz := zigN_lt n h
  have hlen := putN_len n h
  refine ⟨[4, 3], by kernel_rfl, fun vs w1 => ∃ sl xs u, vs = [sl, vu u] ∧ u < 2 ^ 64 ∧ MadeB w w1 sl xs ∧ xs ++ putU u = putN n, fun vs _ => match vs with | [_, .int _ u] => u.toNat | _ => 0, ?_, ?_⟩
  · exact ⟨_, [], _, rfl, hz, made_nil w, rfl⟩
  · rintro _ w1 ⟨sl, xs, u, rfl, hu, hm, he⟩
    have hle : xs.length + (putU u).length ≤ 10 := by rw [← List.length_append, he]; exact hlen
    refine ⟨rfl, fun hc => ?_, fun hc => ?_⟩
    · have hu' : ¬ u < 128 := by simp at hc; omega
      intro b w2 hb hw2
      obtain ⟨A', c', w3, r1, r2⟩ := made_byte hm (or128 u) hb hw2 (by omega)
      refine ⟨_, w3, r1, by show (0 : Int) ≤ 7; decide, ?_⟩
      have e : shrI .u64 (u : Int) 7 = ((u / 128 : Nat) : Int) := by
        rw [show (7 : Int) = ((7 : Nat) : Int) from rfl, shr_nat _ _ _ (by simp [IntKind.bits]), Nat.shiftRight_eq_div_pow]
      refine ⟨⟨_, _, u / 128, ?_, by omega, r2, ?_⟩, ?_⟩
      · show [_, Value.int .u64 (shrI .u64 (u : Int) 7)] = _
        rw [e]
      · rw [← he, putU.eq_def u, dif_neg hu', List.append_assoc]; rfl
      · show (shrI .u64 (u : Int) 7).toNat < (u : Int).toNat
        rw [e]; omega
    · have hu' : u < 128 := by simp at hc; omega
      intro b w2 hb hw2
      obtain ⟨A', c', w3, r1, r2⟩ := made_byte hm (bv_wrap u) hb hw2 (by omega)
      refine ⟨_, w3, r1, ?_⟩
      rw [putU, dif_pos hu'] at he
      rw [← he]
      exact r2

theorem f124 (w : World) (v : Value) (G : Option Nat) (xs : Bytes) (h : IsB w v G xs) (hl : xs.length ≤ 100000000000) : Meets Try.prog 124 [v] w fun v' w' => MadeB w w' v' (putN xs.length ++ xs) := by
  obtain ⟨A, c, rfl, _⟩ := h.val
  refine spec_of Try.func124 Try.ntmps124 Try.results124 rfl (by kernel_rfl) rfl ?_
  have hr : i64R (xs.length : Int) := by unfold i64R; omega
  refine (f159 w xs.length hr).mono ?_
  rintro v1 w1 h1
  obtain ⟨A1, c1, rfl⟩ := Own.ex h1.1
  have := putN_len _ hr
  obtain ⟨A', c', w3, r1, r2⟩ := made_bytes h1 (h.fr0 h1.2.1) (by omega)
  exact ⟨_, w3, r1, r2⟩

end Go.Proofs.Yticgmchbihakkaa

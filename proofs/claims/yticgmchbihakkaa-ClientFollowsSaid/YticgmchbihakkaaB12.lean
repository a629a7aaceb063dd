/- Reading batches: read, First. -/
import Derived.Test.YticgmchbihakkaaB11
set_option linter.unusedVariables false
set_option linter.unusedSimpArgs false
namespace Go.Proofs.Yticgmchbihakkaa
open Go Go.Den
set_option maxRecDepth 100000

theorem Six.ex {v : Value} (h : Six v) : ∃ x0 x1 x2 x3 x4 x5, v = .agg #[x0, x1, x2, x3, x4, x5] ∧ ∀ u ∈ [x0, x1, x2, x3, x4, x5], u.oneCell' = true := by
  obtain ⟨cs, rfl, hl, h1⟩ := h
  match cs, hl with
  | [x0, x1, x2, x3, x4, x5], _ => exact ⟨x0, x1, x2, x3, x4, x5, rfl, h1⟩

def recsD (base first : Int) : Nat → Bytes → List Rec → Option (List Rec)
  | 0, _, acc => some acc
  | n + 1, xs, acc => match recD (rBytes 65536 (xs, 0)).1 base first with
    | none => none
    | some r => recsD base first n (rBytes 65536 (xs, 0)).2.1 (acc ++ [r])

/-- A batch of bytes. -/
def readD (p : Bytes) : Option Bat :=
  let x1 := rFix (p, 0) 8
  let x2 := rFix x1.2 4
  let x3 := rFix x2.2 4
  let x4 := rFix x3.2 8
  let x5 := rFix x4.2 8
  let x6 := rFix x5.2 8
  let x7 := rFix x6.2 2
  let x8 := rFix x7.2 4
  let x9 := rFix x8.2 4
  if x9.2.2 ≠ 0 ∨ 100 < x9.1 then none else
  match recsD x1.1 x5.1 x9.1 x9.2.1 [] with
  | none => none
  | some rs =>
    let b : Bat := ⟨x1.1, IntKind.i64.wrap ((x1.1 : Int) + x4.1), x6.1, x7.1, x8.1, rs⟩
    if chk b = 0 ∧ encB b = p then some b else none

theorem rFix_rng (s : Bytes × Nat) (size : Nat) (h1 : 1 ≤ size) (h8 : size ≤ 8) : (rFix s size).1 < 2 ^ 63 := by
  unfold rFix
  split
  · simp
  · split
    · simp
    · rename_i h
      have hl : size ≤ s.1.length ∧ ¬ (size = 8 ∧ 127 < (s.1.getD 0 0).toNat) := by
        refine ⟨?_, fun h' => h (.inr h')⟩
        exact Nat.le_of_not_lt fun h' => h (.inl h')
      have hlen : (s.1.take size).length = size := by simp; omega
      have hb := beN_lt (s.1.take size)
      rw [hlen] at hb
      by_cases h7 : size < 8
      · have : 256 ^ size ≤ 256 ^ 7 := Nat.pow_le_pow_right (by decide) (by omega)
        show beN _ < _
        omega
      · have h8' : size = 8 := by omega
        subst h8'
        show beN _ < _
        match hs : s.1, hl with
        | c0 :: ys, hl =>
          rw [List.take_succ_cons, beN_cons]
          have hz := beN_lt (ys.take 7)
          rw [hs] at hlen
          have hzl : (ys.take 7).length = 7 := by simpa using hlen
          rw [hzl] at hz ⊢
          have h127 : ¬ 127 < c0.toNat := fun h => hl.2 ⟨rfl, by simpa using h⟩
          have : c0.toNat * 256 ^ 7 ≤ 127 * 256 ^ 7 := Nat.mul_le_mul_right _ (by omega)
          omega
        | [], hl => simp at hl
theorem rFix_len (s : Bytes × Nat) (size : Nat) : (rFix s size).2.1.length ≤ s.1.length := by
  unfold rFix
  split
  · exact Nat.le_refl _
  · split
    · exact Nat.le_refl _
    · simp

theorem BodyV.out {w w' : World} {v : Value} {r : Option Rec} (h : BodyV w w' v r) : ∃ y0 y1 y2 y3 y4 y5, v = .tuple #[.agg #[y0, y1, y2, y3, y4, y5], .bool r.isSome] ∧ Fr None w w' ∧ (∀ u ∈ [y0, y1, y2, y3, y4, y5], u.oneCell' = true) ∧ ∀ r', r = some r' → IsRec w' (From w.heap.size) [y0, y1, y2, y3, y4, y5] r' := by
  obtain ⟨h1, u, rfl, h3, h4⟩ := h
  obtain ⟨y0, y1, y2, y3, y4, y5, rfl, hone⟩ := h3.ex
  refine ⟨y0, y1, y2, y3, y4, y5, rfl, h1, hone, fun r' hr => ?_⟩
  rw [hr] at h4
  obtain ⟨cs, e, hcs⟩ := h4
  have := congrArg Array.toList (Value.agg.inj e)
  simp only [List.toList_toArray] at this
  subst this
  exact hcs
theorem rBytes_len1 (most : Int) (s : Bytes × Nat) : (rBytes most s).1.length ≤ s.1.length := by
  unfold rBytes
  split
  · simp
  · split
    · simp
    · split
      · simp
      · split
        · simp
        · simp; omega

end Go.Proofs.Yticgmchbihakkaa

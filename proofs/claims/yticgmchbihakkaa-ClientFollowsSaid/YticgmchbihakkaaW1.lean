/- wire.Writer: Fixed, Done. -/
import Derived.Test.YticgmchbihakkaaN1
import Derived.Test.YticgmchbihakkaaProg
set_option linter.unusedVariables false
set_option linter.unusedSimpArgs false
namespace Go.Proofs.Yticgmchbihakkaa
open Go Go.Den
set_option maxRecDepth 100000

abbrev ptr (a : Nat) : Value := .pointer (some ⟨a, 0, none⟩)
abbrev vi (n : Int) : Value := .int .i64 n

/-- A number in so many bytes, the greatest first. -/
def fixedB (n size : Nat) : Bytes := (List.range size).map fun i => UInt8.ofNat (n >>> (8 * (size - 1 - i)))

theorem fixedB_length (n size : Nat) : (fixedB n size).length = size := by simp [fixedB]

/-- A writer: its blocks are those in D. -/
structure IsW (w : World) (D : Nat → Prop) (a : Nat) (xs : Bytes) (bad : Bool) : Prop where
  ex : ∃ sl, w.heap[a]? = some (.cells #[sl, .bool bad] 214 (0, 0)) ∧ OwnB w 5 sl xs ∧ ∀ k, D k ↔ k = a ∨ sl.ownBlock = some k

theorem byteTy : ElemTy Try.prog 22 5 1 1 (.int .u8 0) := by
  refine ⟨by kernel_rfl, by kernel_rfl, rfl, by decide, by decide⟩

theorem under22 : TI.of Try.prog 22 = ⟨.slice 5 1, 1, [.slice none 0 0]⟩ := by kernel_rfl

theorem fixedB_take (n size j : Nat) (h : j < size) : (fixedB n size).take (j + 1) = (fixedB n size).take j ++ [UInt8.ofNat (n >>> (8 * (size - 1 - j)))] := by
  rw [List.take_add_one]
  congr 1
  simp [fixedB, List.getElem?_map, List.getElem?_range h]

theorem f114 (w : World) (D : Nat → Prop) (a : Nat) (xs : Bytes) (bad : Bool) (n size : Nat) (h : IsW w D a xs bad) (h1 : 1 ≤ size) (h8 : size ≤ 8) (hf : size < 8 → n < 2 ^ (8 * size)) (hn2 : n < 2 ^ 63) (hl : xs.length ≤ 100000000000) :
    Meets Try.prog 114 [ptr a, vi n, vi size] w fun v w' => v = ptr a ∧ ∃ D', IsW w' D' a (xs ++ fixedB n size) bad ∧ Fr D w w' ∧ ∀ k, D' k → D k ∨ w.heap.size ≤ k := by
  obtain ⟨sl, hb, ho, hD⟩ := h
  refine spec_of Try.func114 Try.ntmps114 Try.results114 rfl (by kernel_rfl) rfl ?_
  refine ⟨fun e => (by cases e), fun _ => ?_⟩
  have hw8 : IntKind.i64.wrap (8 * (size : Int)) = ((8 * size : Nat) : Int) := w64 (by omega)
  refine ⟨fun _ _ => ?_, fun e => absurd e ?_, fun _ => ?_⟩
  · rw [hw8]; omega
  · rw [hw8]
    have hz : ¬ (size : Int) < 8 ∨ ¬ 0 < shrI .i64 n (8 * size : Nat) := by
      by_cases hs : size < 8
      · right
        have := hf hs
        rw [shr_nat _ _ _ (by simp [IntKind.bits]; omega), Nat.shiftRight_eq_div_pow, Nat.div_eq_of_lt this]
        simp
      · left; omega
    have ha : ¬ (n : Int) < 0 := by omega
    have hb' : ¬ (size : Int) < 1 := by omega
    have hc : ¬ 8 < (size : Int) := by omega
    simp only [ha, hb', hc, decide_false, Bool.or_self, Bool.false_or, Bool.and_eq_true, decide_eq_true_eq]
    rintro ⟨h1, h2⟩
    rcases hz with hz | hz
    · exact hz h1
    · exact hz h2
  · refine ⟨[2], by kernel_rfl, fun vs w1 => ∃ j, j ≤ size ∧ vs = [vi ((size : Int) - 1 - j)] ∧ ∃ D', IsW w1 D' a (xs ++ (fixedB n size).take j) bad ∧ Fr D w w1 ∧ ∀ k, D' k → D k ∨ w.heap.size ≤ k, fun vs _ => match vs with | [.int _ s] => (s + 1).toNat | _ => 0, ?_, ?_⟩
    · refine ⟨0, by omega, ?_, D, ⟨sl, hb, by simpa using ho, hD⟩, Fr.refl _ _, fun k hk => .inl hk⟩
      show [vi (IntKind.i64.wrap _)] = _
      rw [w64 (by omega)]; simp
    · rintro _ w1 ⟨j, hj, rfl, D1, ⟨sl1, hb1, ho1, hD1⟩, hfr1, hnew1⟩
      refine ⟨rfl, fun _ => ?_, fun e => ?_⟩
      · refine ⟨hs [0, 1, 2, 3, 4, 5, 6, 7, 8, 9] (.one 10 true (.one 11 false (hs [12, 13] (.one 14 false .nil)))), fun w' => w'.heap[a]? = some (.cells #[sl1, .bool bad] 214 (0, 0)), by kernel_rfl, by kernel_rfl, hb1, ?_⟩
        refine ⟨_, rfl, _, rfl, _, _, ⟨rfl, fun w' hw' => cell_of hw' rfl⟩, ?_⟩
        have hjs : j < size := by simp at *; omega
        have hm : IntKind.i64.wrap (8 * ((size : Int) - 1 - j)) = ((8 * (size - 1 - j) : Nat) : Int) := by rw [w64 (by omega)]; omega
        refine ⟨by rw [hm]; exact Int.natCast_nonneg _, ?_⟩
        intro b2 w2 hb2 hw2
        obtain ⟨g1, g2, g3, g4⟩ := new_of hb2 hw2
        have hx : (.int .u8 (IntKind.u8.wrap (shrI .i64 (n : Int) (IntKind.i64.wrap (8 * ((size : Int) - 1 - j))))) : Value) = bv (UInt8.ofNat (n >>> (8 * (size - 1 - j)))) := by
          rw [hm, shr_nat _ _ _ (by simp [IntKind.bits]; omega), bv_wrap]
        have hlt := lt_of_blk hb1
        refine ⟨g2.blk hb1 (no_none _), ?_⟩
        have ho2 : OwnB w2 5 sl1 _ := (show OwnB w1.drew 5 sl1 _ from ho1).fr g2 (fun _ _ _ => id)
        obtain ⟨A', c', w3, r1, r2, r3, r4⟩ := ap_byte byteTy ho2 hx g1 (by simp [fixedB_length]; omega) 22
        refine ⟨_, w3, r1, ?_⟩
        have hlt3 : w1.drew.heap.size = w1.heap.size := rfl
        have hb3 : w3.heap[a]? = some (.cells #[sl1, .bool bad] 214 (0, 0)) := r3.blk (g2.blk hb1 (no_none _)) (ho2.ne_of_type (g2.blk hb1 (no_none _)) (by decide))
        refine ⟨_, rfl, _, rfl, ?_⟩
        refine ⟨st_ok (i := 0) hb3 (by simp) rfl, fun w4 hw4 => ?_⟩
        obtain ⟨k1, k2, k3⟩ := st_fx (i := 0) hb3 hw4
        have hle := r3.size
        refine ⟨⟨j + 1, by omega, ?_, fun k => k = a ∨ (Value.slice A' _ c').ownBlock = some k, ⟨_, k1, ?_, fun _ => Iff.rfl⟩, ?_, ?_⟩, ?_⟩
        · show [vi (IntKind.i64.wrap _)] = _
          rw [w64 (by omega)]
          simp; omega
        · rw [fixedB_take _ _ _ hjs, ← List.append_assoc]
          refine r2.fr k2 fun b hbb _ e => ?_
          subst e
          exact r2.ne_of_type hb3 (by decide) hbb
        · exact ((hfr1.drew.more g2).andThen r3 fun i hi => hnew1 i ((hD1 i).2 (.inr hi))).andThen k2 fun i hi => hnew1 i ((hD1 i).2 (.inl hi))
        · rintro k (rfl | hk)
          · exact hnew1 _ ((hD1 _).2 (.inl rfl))
          · rcases r4 with r4 | r4
            · exact hnew1 _ ((hD1 _).2 (.inr (r4 ▸ hk)))
            · right
              rw [r4] at hk
              cases hk
              exact Nat.le_trans hfr1.size g2.size
        · show ((_ : Int) + 1).toNat < ((_ : Int) + 1).toNat
          rw [w64 (by omega)]; omega
      · have hjs : j = size := by simp at e; omega
        subst hjs
        refine ⟨rfl, D1, ⟨sl1, hb1, ?_, hD1⟩, hfr1, hnew1⟩
        rwa [List.take_of_length_le (by simp [fixedB_length])] at ho1
end Go.Proofs.Yticgmchbihakkaa

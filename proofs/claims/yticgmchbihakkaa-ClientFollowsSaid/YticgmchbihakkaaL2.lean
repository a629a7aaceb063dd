/- The plain law of chapter 6: whatever the index, the place is the same. -/
import Derived.Test.YticgmchbihakkaaC12
set_option linter.unusedVariables false
set_option linter.unusedSimpArgs false
namespace Go.Proofs.Yticgmchbihakkaa
open Go Go.Den

theorem find_congr {α : Type} {p q : α → Bool} : ∀ {l : List α}, (∀ x ∈ l, p x = q x) → l.find? p = l.find? q
  | [], _ => rfl
  | x :: l, h => by
    rw [List.find?_cons, List.find?_cons, h x (by simp), find_congr fun y hy => h y (by simp [hy])]

/-- Batches rise. -/
theorem allF_rise : ∀ (k : Nat) (xs : Bytes) (at0 : Nat) (last : Int), xs.length ≤ k → (∀ x ∈ allF xs at0 last, at0 ≤ x.1 ∧ last < x.2.base ∧ x.2.base ≤ x.2.last) ∧ (allF xs at0 last).Pairwise fun x y => x.1 < y.1 ∧ x.2.last < y.2.base := by
  intro k
  induction k with
  | zero =>
    intro xs at0 last h
    rw [allF_eq]
    cases hf : firstD xs with
    | none => simp
    | some x =>
      have := firstD_len (b := x.1) (n := x.2) hf
      omega
  | succ k ih =>
    intro xs at0 last h
    rw [allF_eq]
    cases hf : firstD xs with
    | none => simp
    | some x =>
      obtain ⟨b, n⟩ := x
      have hn := firstD_len hf
      have hb := headR_of (chk_parts (firstD_of hf).1).1.head
      have hl0 := hb.l0
      dsimp only
      by_cases hc : b.base ≤ last
      · rw [if_pos hc]; simp
      · rw [if_neg hc]
        obtain ⟨i1, i2⟩ := ih (xs.drop n) (at0 + n) b.last (by simp; omega)
        refine ⟨fun x hx => ?_, List.pairwise_cons.2 ⟨fun y hy => ?_, i2⟩⟩
        · rcases List.mem_cons.1 hx with rfl | hx
          · exact ⟨Nat.le_refl _, Int.not_le.1 hc, hl0⟩
          · have := i1 x hx
            omega
        · have := i1 y hy
          show at0 < y.1 ∧ b.last < y.2.base
          omega
theorem allB_rise (p : Bytes) : (allB p).Pairwise fun x y => x.1 < y.1 ∧ x.2.last < y.2.base := (allF_rise _ _ _ _ (Nat.le_refl _)).2
theorem allB_sep {p : Bytes} {x y : Nat × Bat} (hx : x ∈ allB p) (hy : y ∈ allB p) (h : x.1 < y.1) : x.2.last < y.2.base := by
  have := allB_rise p
  generalize allB p = l at *
  induction l with
  | nil => cases hx
  | cons z l ih =>
    obtain ⟨h1, h2⟩ := List.pairwise_cons.1 this
    rcases List.mem_cons.1 hx with rfl | hx <;> rcases List.mem_cons.1 hy with rfl | hy
    · omega
    · exact (h1 y hy).2
    · have := (h1 x (by assumption)).1; omega
    · exact ih hx hy h2

theorem build_mem (all : List (Nat × Bat)) (every : Int) : ∀ e ∈ (buildD all every).1, ∃ x ∈ all, e = (x.2.base, (x.1 : Int)) := by
  refine snoc_ind (P := fun all => ∀ e ∈ (buildD all every).1, ∃ x ∈ all, e = (x.2.base, (x.1 : Int))) ?_ ?_ all
  · intro e he; simp [buildD] at he
  · intro pre x ih e he
    rw [buildD_snoc, bStep] at he
    split at he
    · rcases List.mem_append.1 he with he | he
      · obtain ⟨y, hy, h⟩ := ih e he
        exact ⟨y, by simp [hy], h⟩
      · simp at he
        exact ⟨x, by simp, he⟩
    · obtain ⟨y, hy, h⟩ := ih e he
      exact ⟨y, by simp [hy], h⟩
theorem look_mem (off : Int) : ∀ (l : List Ent), lookD l off = 0 ∨ ∃ e ∈ l, e.1 ≤ off ∧ lookD l off = e.2 := by
  refine snoc_ind (P := fun l => lookD l off = 0 ∨ ∃ e ∈ l, e.1 ≤ off ∧ lookD l off = e.2) (.inl rfl) ?_
  intro l e ih
  have : lookD (l ++ [e]) off = lookS off (lookD l off) e := by rw [lookD, List.foldl_append]; rfl
  rw [this, lookS]
  split
  · rename_i h
    exact .inr ⟨e, by simp, h, rfl⟩
  · rcases ih with ih | ⟨e', he', h1, h2⟩
    · exact .inl ih
    · exact .inr ⟨e', by simp [he'], h1, h2⟩

def findD (p : Bytes) (off : Int) : Int × Bool := seekV ((allB p).find? fun x => decide (off ≤ x.2.last))

theorem seek_zero {p : Bytes} {l : List Ent} {off : Int} (h : fromD p l off = 0) : seekD p l off = findD p off := by
  unfold seekD findD
  rw [h]
  refine congrArg seekV (find_congr fun x hx => ?_)
  have : (0 : Int) ≤ x.1 := Int.natCast_nonneg _
  simp [seekOk, this]
theorem seek_build (p : Bytes) (every off : Int) : seekD p (buildD (allB p) every).1 off = findD p off := by
  rcases look_mem off (buildD (allB p) every).1 with h | ⟨e, he, h1, h2⟩
  · apply seek_zero
    unfold fromD
    rw [h]
    split <;> rfl
  · obtain ⟨x, hx, rfl⟩ := build_mem _ _ e he
    have hf : fromD p (buildD (allB p) every).1 off = x.1 := by
      unfold fromD
      rw [h2, if_pos]
      exact List.any_eq_true.2 ⟨x, hx, by simp⟩
    unfold seekD findD
    rw [hf]
    refine congrArg seekV (find_congr fun y hy => ?_)
    unfold seekOk
    by_cases hc : (x.1 : Int) ≤ y.1
    · simp [hc]
    · have := allB_sep hy hx (by omega)
      have h1 : x.2.base ≤ off := h1
      simp [hc]; omega
theorem seek_nil (p : Bytes) (off : Int) : seekD p [] off = findD p off := by
  apply seek_zero
  unfold fromD lookD
  split <;> rfl

def wantS (off : Int) (s : Int × Bool) (x : Nat × Bat) : Int × Bool := if off ≤ x.2.last then ((x.1 : Int), true) else s
theorem findD_none {p : Bytes} {off : Int} (h : ∀ x ∈ allB p, ¬ off ≤ x.2.last) : findD p off = (0, false) := by
  unfold findD
  rw [List.find?_eq_none.2 (by simpa using h)]; rfl
theorem findD_some {p : Bytes} {off : Int} {i : Nat} {x : Nat × Bat} (hx : (allB p)[i]? = some x) (h : off ≤ x.2.last) (h' : ∀ y ∈ (allB p).take i, ¬ off ≤ y.2.last) : findD p off = ((x.1 : Int), true) := by
  unfold findD
  have : allB p = (allB p).take i ++ x :: (allB p).drop (i + 1) := by
    have hlt := (List.getElem?_eq_some_iff.1 hx).1
    have he := (List.getElem?_eq_some_iff.1 hx).2
    conv => lhs; rw [← List.take_append_drop i (allB p)]
    rw [List.drop_eq_getElem_cons hlt, he]
  rw [this, List.find?_append, List.find?_eq_none.2 (by simpa using h')]
  simp [h]; rfl
end Go.Proofs.Yticgmchbihakkaa

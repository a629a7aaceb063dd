/- The engine, part 3: operations without effects are sound. -/
import Derived.Test.YticgmchbihakkaaE2
set_option linter.unusedVariables false
set_option linter.unusedSimpArgs false
namespace Go.Den
open Go

theorem strD_spec {P : Program} {c : List (Bool × Bool)} (hc : conds c) {op : BinOp} {t : Nat} {x y : ByteArray} {K : Value → Prop} (h : strD op x y c K) :
    ∃ v, (∀ w, (binOp op t (.string x) (.string y)).run P w = .ok v w) ∧ K v := by
  cases op <;> simp only [strD] at h <;> try (exact h.elim)
  case add =>
    have := under_elim h.1 hc
    refine ⟨_, fun w => ?_, h.2⟩
    have e : ¬ (((x.size + y.size : Nat) : Int) > IntKind.i64.max) := by
      have : IntKind.i64.max = 9223372036854775807 := by decide
      omega
    simp only [binOp, Op.stringOp]
    rw [if_neg e]
    rfl
  all_goals exact ⟨_, fun w => by simp only [binOp, Op.stringOp, str_eq]; rfl, h⟩

set_option maxHeartbeats 2000000 in
theorem eqlD_spec' {P : Program} {t : Nat} {neg : Bool} {x y : Value} {K : Value → Prop} (d : Nat) (h : eqlD (TI.of P t) neg x y K) :
    ∃ b, (∀ w, (Op.equalIn (d + 1) t x y).run P w = .ok b w) ∧ K (.bool (bif neg then !b else b)) := by
  unfold eqlD at h
  split at h
  · rename_i hk
    have hu : P.underlying t = some .bool := by have := @ti_cases P t; simp only [hk] at this; simpa using this
    exact ⟨_, fun w => by rw [Op.equalIn]; simp [run_underlying' hu], h⟩
  · rename_i hk
    obtain ⟨e, hu⟩ : ∃ e, P.underlying t = some (.pointer e) := by have := @ti_cases P t; simp only [hk] at this; simpa using this
    exact ⟨_, fun w => by rw [Op.equalIn]; simp [run_underlying' hu], h⟩
  · rename_i a _ hk
    obtain ⟨e, hu⟩ : ∃ e, P.underlying t = some (.pointer e) := by have := @ti_cases P t; simp only [hk] at this; simpa using this
    cases a with
    | none => exact ⟨_, fun w => by rw [Op.equalIn]; simp [run_underlying' hu] <;> rfl, h⟩
    | some a => exact ⟨_, fun w => by rw [Op.equalIn]; simp [run_underlying' hu] <;> rfl, h⟩
  · rename_i e sz _ _ b _ _ hk
    obtain ⟨hu, _⟩ := ti_slice hk
    exact ⟨_, fun w => by rw [Op.equalIn]; simp [run_underlying' hu], h⟩
  · rename_i e sz a _ _ _ _ _ hk
    obtain ⟨hu, _⟩ := ti_slice hk
    cases a with
    | none => exact ⟨_, fun w => by rw [Op.equalIn]; simp [run_underlying' hu] <;> rfl, h⟩
    | some a => exact ⟨_, fun w => by rw [Op.equalIn]; simp [run_underlying' hu] <;> rfl, h⟩
  · rename_i hk
    obtain ⟨k, e, hu⟩ : ∃ k e, P.underlying t = some (.map k e) := by have := @ti_cases P t; simp only [hk] at this; simpa using this
    exact ⟨_, fun w => by rw [Op.equalIn]; simp [run_underlying' hu], h⟩
  · rename_i a _ hk
    obtain ⟨k, e, hu⟩ : ∃ k e, P.underlying t = some (.map k e) := by have := @ti_cases P t; simp only [hk] at this; simpa using this
    cases a with
    | none => exact ⟨_, fun w => by rw [Op.equalIn]; simp [run_underlying' hu] <;> rfl, h⟩
    | some a => exact ⟨_, fun w => by rw [Op.equalIn]; simp [run_underlying' hu] <;> rfl, h⟩
  · rename_i hk
    obtain ⟨a, b, e, hu⟩ : ∃ a b e, P.underlying t = some (.func a b e) := by have := @ti_cases P t; simp only [hk] at this; simpa using this
    exact ⟨_, fun w => by rw [Op.equalIn]; simp [run_underlying' hu] <;> rfl, h⟩
  · rename_i hk
    obtain ⟨a, b, e, hu⟩ : ∃ a b e, P.underlying t = some (.func a b e) := by have := @ti_cases P t; simp only [hk] at this; simpa using this
    exact ⟨_, fun w => by rw [Op.equalIn]; simp [run_underlying' hu] <;> rfl, h⟩
  · rename_i hk
    obtain ⟨a, b, e, hu⟩ : ∃ a b e, P.underlying t = some (.func a b e) := by have := @ti_cases P t; simp only [hk] at this; simpa using this
    exact ⟨_, fun w => by rw [Op.equalIn]; simp [run_underlying' hu] <;> rfl, h⟩
  · exact h.elim
theorem eqlD_spec {P : Program} {t : Nat} {neg : Bool} {x y : Value} {K : Value → Prop} (h : eqlD (TI.of P t) neg x y K) :
    ∃ b, (∀ w, (Op.equal t x y).run P w = .ok b w) ∧ K (.bool (bif neg then !b else b)) := by
  unfold Op.equal
  generalize hm : Op.maxDepth = m
  obtain ⟨d, rfl⟩ : ∃ d, m = d + 1 := ⟨9999, by rw [← hm]; rfl⟩
  exact eqlD_spec' d h

/-- Neither side is one of which eqGuard asks. -/
def noGuard : Value → Bool
  | .nilIface => false
  | .agg _ => false
  | _ => true
theorem run_eqGuard {P : Program} {w : World} {op : BinOp} {t : Nat} {p q : Operand} {x y : Value} (h : noGuard x = true) : (eqGuard op t p q x y).run P w = .ok () w := by
  unfold eqGuard
  cases x <;> simp [noGuard] at h <;> cases op <;> cases y <;> simp

theorem eqlD_noGuard {T : TI} {neg : Bool} {x y : Value} {K : Value → Prop} (h : eqlD T neg x y K) : noGuard x = true := by
  unfold eqlD at h
  split at h <;> first | rfl | exact h.elim

theorem binOp_eq_other {op : BinOp} {t : Nat} {x y : Value} (h1 : ∀ k a, x ≠ .int k a) (h2 : ∀ s, x ≠ .string s) (h3 : ∀ k a, x ≠ .float k a) (h4 : ∀ k a b, x ≠ .complex k a b) :
    binOp .eql t x y = (do pure (.bool (← Op.equal t x y))) ∧ binOp .neq t x y = (do pure (.bool (!(← Op.equal t x y)))) := by
  cases x <;> first | (exact absurd rfl (h1 _ _)) | (exact absurd rfl (h2 _)) | (exact absurd rfl (h3 _ _)) | (exact absurd rfl (h4 _ _ _)) | (cases y <;> exact ⟨rfl, rfl⟩)

theorem binD_spec {P : Program} {c : List (Bool × Bool)} (hc : conds c) {op : BinOp} {t : Nat} {p q : Operand} {x y : Value} {K : Value → Prop} (h : binD (TI.of P t) c op x y K) :
    ∃ v, (∀ w, (do eqGuard op t p q x y; binOp op t x y : Sem Value).run P w = .ok v w) ∧ K v := by
  unfold binD at h
  split at h
  · rename_i k a k' b
    have hg : ∀ w, (do eqGuard op t p q (.int k a) (.int k' b); binOp op t (.int k a) (.int k' b) : Sem Value).run P w = (binOp op t (.int k a) (.int k' b)).run P w := fun w => by rw [Sem.run_bind, run_eqGuard rfl]; rfl
    simp only [hg]
    split at h
    · have := under_elim h.1 hc
      exact ⟨_, fun w => by simp [binOp, Op.shift, show ¬ b < 0 by omega]; rfl, h.2⟩
    · have := under_elim h.1 hc
      exact ⟨_, fun w => by simp [binOp, Op.shift, show ¬ b < 0 by omega]; rfl, h.2⟩
    · rename_i op' h1 h2
      cases hk : kindEq k k' with
      | false => rw [hk] at h; exact h.elim
      | true =>
        rw [hk] at h
        obtain rfl := kindEq_spec hk
        obtain ⟨v, hv, hK⟩ := intD_spec (P := P) hc h ⟨h1, h2⟩
        exact ⟨v, fun w => by rw [binOp_int_type]; exact hv w, hK⟩
  · rename_i a b
    have hg : ∀ w, (do eqGuard op t p q (.string a) (.string b); binOp op t (.string a) (.string b) : Sem Value).run P w = (binOp op t (.string a) (.string b)).run P w := fun w => by rw [Sem.run_bind, run_eqGuard rfl]; rfl
    simp only [hg]
    exact strD_spec hc h
  · rename_i hx hx'
    have key : ∀ (neg : Bool), eqlD (TI.of P t) neg x y K → ∃ b, (∀ w, (Op.equal t x y).run P w = .ok b w) ∧ K (.bool (bif neg then !b else b)) := fun neg h => eqlD_spec h
    have sh : ∀ neg, eqlD (TI.of P t) neg x y K → (∀ k a, x ≠ .int k a) ∧ (∀ s, x ≠ .string s) ∧ (∀ k a, x ≠ .float k a) ∧ (∀ k a b, x ≠ .complex k a b) := by
      intro neg h
      unfold eqlD at h
      split at h <;> first | (exact h.elim) | simp
    split at h
    · obtain ⟨b, hb, hK⟩ := key _ h
      obtain ⟨s1, s2, s3, s4⟩ := sh _ h
      refine ⟨.bool b, fun w => ?_, by simpa using hK⟩
      rw [Sem.run_bind, run_eqGuard (eqlD_noGuard h), (binOp_eq_other (op := .eql) s1 s2 s3 s4).1]
      simp [hb]
    · obtain ⟨b, hb, hK⟩ := key _ h
      obtain ⟨s1, s2, s3, s4⟩ := sh _ h
      refine ⟨.bool (!b), fun w => ?_, by simpa using hK⟩
      rw [Sem.run_bind, run_eqGuard (eqlD_noGuard h), (binOp_eq_other (op := .neq) s1 s2 s3 s4).2]
      simp [hb]
    · exact h.elim

theorem unD_spec {P : Program} {op : UnOp} {x : Value} {K : Value → Prop} (h : unD op x K) : ∃ v, (∀ w, (Op.unary op x).run P w = .ok v w) ∧ K v := by
  unfold unD at h
  split at h
  · exact ⟨_, fun w => by simp [Op.unary], h⟩
  · exact ⟨_, fun w => by simp [Op.unary, Op.intArith], h⟩
  · refine ⟨_, fun w => ?_, h⟩
    rename_i k n
    cases hs : k.signed <;> simp [Op.unary, Op.intBits, bitI, hs]
  · exact h.elim

theorem optV_spec {f : Operand → Option Value} {ρ : Operand → Value} (hf : ∀ x v, f x = some v → ρ x = v) {x : Option Operand} {z : Option Int} (h : (optV f x).bind optInt = some z) :
    (x.map ρ = none ∧ z = none) ∨ ∃ k i, x.map ρ = some (.int k i) ∧ z = some i := by
  cases x with
  | none => simp [optV, optInt] at h; exact .inl ⟨rfl, h.symm⟩
  | some o =>
    simp only [optV] at h
    cases ho : f o with
    | none => simp [ho] at h
    | some v =>
      rw [ho] at h
      cases v <;> simp [optInt] at h
      rename_i k i
      exact .inr ⟨k, i, by simp [hf _ _ ho], h.symm⟩

theorem sliceD_spec {P : Program} {c : List (Bool × Bool)} (hc : conds c) {t e : Nat} (hu : P.underlying t = some (.slice e)) (hz : P.cellsOf e ≠ 0) {A : Option Addr} {n cap : Nat} {lo hi mx : Option Value} {l h m : Option Int} {K : Value → Prop}
    (hl : (lo = none ∧ l = none) ∨ ∃ k i, lo = some (.int k i) ∧ l = some i) (hh : (hi = none ∧ h = none) ∨ ∃ k i, hi = some (.int k i) ∧ h = some i) (hm : (mx = none ∧ m = none) ∨ ∃ k i, mx = some (.int k i) ∧ m = some i)
    (H : sliceD c (P.cellsOf e) A n cap l h m K) : ∃ v, (∀ w, (Instr.sliceAt t (.slice A n cap) lo hi mx).run P w = .ok v w) ∧ K v := by
  have e1 : ∀ w, (Instr.sliceAt t (.slice A n cap) lo hi mx).run P w = (Instr.slice t (.slice A n cap) lo hi mx).run P w := fun w => by simp [Instr.sliceAt, run_underlying' hu]
  simp only [e1]
  have hsz := fun w => run_sizeOf_cells (P := P) hz w
  rcases hl with ⟨rfl, rfl⟩ | ⟨kl, l, rfl, rfl⟩ <;> rcases hh with ⟨rfl, rfl⟩ | ⟨kh, h, rfl, rfl⟩ <;> rcases hm with ⟨rfl, rfl⟩ | ⟨km, m, rfl, rfl⟩ <;> simp only [sliceD] at H <;> try (exact H.elim)
  · refine ⟨_, fun w => ?_, H⟩
    simp [Instr.slice, run_underlying' hu, Instr.sliceBounds, hsz]
    intro _; cases A <;> simp [Addr.add]
  · have hb := under_elim H.1 hc
    refine ⟨_, fun w => ?_, H.2⟩
    simp [Instr.slice, run_underlying' hu, Instr.sliceBounds, run_sliceBound, hsz, hb]
    intro _; cases A <;> simp [Addr.add]
  · have hb := under_elim H.1 hc
    have eh : (h.toNat : Int) = h := Int.toNat_of_nonneg (by omega)
    have em : (m.toNat : Int) = m := Int.toNat_of_nonneg (by omega)
    refine ⟨_, fun w => ?_, H.2 _ rfl⟩
    simp [Instr.slice, run_underlying' hu, Instr.sliceBounds, run_sliceBound, hsz, hb, em, show 0 ≤ m by omega]
    intro _; cases A <;> simp [Addr.add]
  · have hb := under_elim H.1 hc
    exact ⟨_, fun w => by simp [Instr.slice, run_underlying' hu, Instr.sliceBounds, run_sliceBound, hsz, hb], H.2 _ rfl⟩
  · have hb := under_elim H.1 hc
    have eh : (h.toNat : Int) = h := Int.toNat_of_nonneg (by omega)
    exact ⟨_, fun w => by simp [Instr.slice, run_underlying' hu, Instr.sliceBounds, run_sliceBound, hsz, hb, eh, show 0 ≤ h by omega], H.2 _ rfl⟩
  · have hb := under_elim H.1 hc
    have eh : (h.toNat : Int) = h := Int.toNat_of_nonneg (by omega)
    have em : (m.toNat : Int) = m := Int.toNat_of_nonneg (by omega)
    exact ⟨_, fun w => by simp [Instr.slice, run_underlying' hu, Instr.sliceBounds, run_sliceBound, hsz, hb, eh, em, show 0 ≤ h by omega, show 0 ≤ m by omega], H.2 _ rfl⟩

theorem sliceS_spec {P : Program} {c : List (Bool × Bool)} (hc : conds c) {t : Nat} (hu : P.underlying t = some .string) {s : ByteArray} {lo hi : Option Value} {l h : Option Int} {K : Value → Prop}
    (hl : (lo = none ∧ l = none) ∨ ∃ k i, lo = some (.int k i) ∧ l = some i) (hh : (hi = none ∧ h = none) ∨ ∃ k i, hi = some (.int k i) ∧ h = some i)
    (H : sliceS c s l h K) : ∃ v, (∀ w, (Instr.sliceAt t (.string s) lo hi none).run P w = .ok v w) ∧ K v := by
  have e1 : ∀ w, (Instr.sliceAt t (.string s) lo hi none).run P w = (Instr.slice t (.string s) lo hi none).run P w := fun w => by simp [Instr.sliceAt, run_underlying' hu]
  simp only [e1]
  rcases hl with ⟨rfl, rfl⟩ | ⟨kl, l, rfl, rfl⟩ <;> rcases hh with ⟨rfl, rfl⟩ | ⟨kh, h, rfl, rfl⟩ <;> simp only [sliceS] at H
  · exact ⟨_, fun w => by simp [Instr.slice, run_underlying' hu, Instr.sliceBounds], H⟩
  · have hb := under_elim H.1 hc
    exact ⟨_, fun w => by simp [Instr.slice, run_underlying' hu, Instr.sliceBounds, run_sliceBound, hb], H.2⟩
  · have hb := under_elim H.1 hc
    exact ⟨_, fun w => by simp [Instr.slice, run_underlying' hu, Instr.sliceBounds, run_sliceBound, hb], H.2⟩
  · have hb := under_elim H.1 hc
    have eh : (h.toNat : Int) = h := Int.toNat_of_nonneg (by omega)
    exact ⟨_, fun w => by simp [Instr.slice, run_underlying' hu, Instr.sliceBounds, run_sliceBound, hb, eh, show 0 ≤ h by omega], H.2⟩

end Go.Den

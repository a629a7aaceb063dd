/- The engine, part 2: its single steps are sound. -/
import Derived.Test.YticgmchbihakkaaE1
set_option linter.unusedVariables false
set_option linter.unusedSimpArgs false
namespace Go.Den
open Go

theorem under_dup {c : List (Bool × Bool)} {p : Prop} (h : under c p) (hc : conds c) : p := under_elim h hc

section ti
variable {P : Program} {t : Nat}
theorem info_of_underlying {d : TypeDesc} (h : P.underlying t = some d) : ∃ i, P.info? t = some i := by
  unfold Program.underlying at h
  cases hi : P.info? t with
  | none => simp [hi] at h
  | some i => exact ⟨i, rfl⟩
theorem info_of_cells (h : P.cellsOf t ≠ 0) : ∃ i, P.info? t = some i ∧ i.size = P.cellsOf t := by
  unfold Program.cellsOf at *
  cases hi : P.info? t with
  | none => simp [hi] at h
  | some i => exact ⟨i, rfl, rfl⟩
theorem run_sizeOf_cells (h : P.cellsOf t ≠ 0) (w : World) : (sizeOf t).run P w = .ok (P.cellsOf t) w := by
  obtain ⟨i, hi, hs⟩ := info_of_cells h
  simp [sizeOf, typeInfo, hi, hs]
theorem run_sizeOf_under {d : TypeDesc} (h : P.underlying t = some d) (w : World) : (sizeOf t).run P w = .ok (P.cellsOf t) w := by
  obtain ⟨i, hi⟩ := info_of_underlying h
  simp [sizeOf, typeInfo, hi, Program.cellsOf]
theorem run_underlying' {d : TypeDesc} (h : P.underlying t = some d) (w : World) : (underlying t).run P w = .ok d w := by
  simp [underlying, h]

theorem ti_cases : (TI.of P t).k = .bad ∨
    (∃ k, (TI.of P t).k = .int k ∧ P.underlying t = some (.int k)) ∨ ((TI.of P t).k = .bool ∧ P.underlying t = some .bool) ∨ ((TI.of P t).k = .str ∧ P.underlying t = some .string) ∨
    (∃ e, (TI.of P t).k = .ptr ∧ P.underlying t = some (.pointer e)) ∨ (∃ e, (TI.of P t).k = .slice e (P.cellsOf e) ∧ P.underlying t = some (.slice e) ∧ P.cellsOf e ≠ 0) ∨
    (∃ k e, (TI.of P t).k = .map ∧ P.underlying t = some (.map k e)) ∨ (∃ a b c, (TI.of P t).k = .func ∧ P.underlying t = some (.func a b c)) ∨
    (∃ m, (TI.of P t).k = .iface ∧ P.underlying t = some (.interface m)) ∨
    (∃ fs, (TI.of P t).k = .agg (fs.toList.map fun f => (f.offset, P.cellsOf f.type)) ∧ P.underlying t = some (.struct fs) ∧ (∀ f ∈ fs.toList, P.cellsOf f.type ≠ 0) ∧ (TI.of P t).size = P.cellsOf t) := by
  unfold TI.of
  cases hu : P.underlying t with
  | none => simp
  | some d =>
    cases d <;> simp
    case slice e =>
      cases hb : Nat.beq (P.cellsOf e) 0 with
      | true => simp
      | false =>
        have : P.cellsOf e ≠ 0 := fun h => by rw [h] at hb; simp at hb
        exact .inr ⟨e, by simp, rfl, this⟩
    case struct fs =>
      cases hb : fs.all (fun f => !Nat.beq (P.cellsOf f.type) 0) with
      | false => simp
      | true =>
        refine .inr ⟨fs, ?_, rfl, ?_, rfl⟩
        · simp
        · intro f hf h0
          have := (Array.all_eq_true_iff_forall_mem.1 hb) f hf
          rw [h0] at this
          simp at this

theorem ti_slice {e esz : Nat} (h : (TI.of P t).k = .slice e esz) : P.underlying t = some (.slice e) ∧ esz = P.cellsOf e ∧ P.cellsOf e ≠ 0 := by
  have := @ti_cases P t
  simp only [h] at this
  simp at this
  obtain ⟨e', ⟨rfl, rfl⟩, hu, hz⟩ := this
  exact ⟨hu, rfl, hz⟩
theorem ti_str (h : (TI.of P t).k = .str) : P.underlying t = some .string := by
  have := @ti_cases P t
  simp only [h] at this
  simpa using this
theorem ti_int {k : IntKind} (h : (TI.of P t).k = .int k) : P.underlying t = some (.int k) := by
  have := @ti_cases P t
  simp only [h] at this
  simpa using this
theorem ti_agg {fs : List (Nat × Nat)} (h : (TI.of P t).k = .agg fs) : ∃ fl, P.underlying t = some (.struct fl) ∧ fs = fl.toList.map (fun f => (f.offset, P.cellsOf f.type)) ∧ (∀ f ∈ fl.toList, P.cellsOf f.type ≠ 0) ∧ (TI.of P t).size = P.cellsOf t := by
  have := @ti_cases P t
  simp only [h] at this
  simp at this
  obtain ⟨fl, h1, h2, h3, h4⟩ := this
  exact ⟨fl, h2, h1, fun f hf => h3 f (by simpa using hf), h4⟩
theorem ti_isAgg (h1 : (TI.of P t).k ≠ .bad) (h2 : ∀ fs, (TI.of P t).k ≠ .agg fs) (w : World) : (isAgg t).run P w = .ok false w := by
  have := @ti_cases P t
  rcases this with h | ⟨_, _, h⟩ | ⟨_, h⟩ | ⟨_, h⟩ | ⟨_, _, h⟩ | ⟨_, _, h, _⟩ | ⟨_, _, _, h⟩ | ⟨_, _, _, _, h⟩ | ⟨_, _, h⟩ | ⟨_, h, _⟩
  · exact absurd h h1
  all_goals first | (exact absurd h (h2 _)) | simp [isAgg, run_underlying' h]
end ti

theorem needs_spec {f : Operand → Option Value} {ρ : Operand → Value} (hf : ∀ x v, f x = some v → ρ x = v) : ∀ {l : List Operand} {vs : List Value}, needs f l = some vs → l.map ρ = vs
  | [], vs, h => by simp [needs] at h; simp [← h]
  | x :: l, vs, h => by
    unfold needs at h
    split at h
    · rename_i v us h1 h2
      cases h
      simp [hf _ _ h1, needs_spec hf h2]
    · cases h
theorem needs_array {f : Operand → Option Value} {ρ : Operand → Value} (hf : ∀ x v, f x = some v → ρ x = v) {l : Array Operand} {vs : List Value} (h : needs f l.toList = some vs) : l.map ρ = vs.toArray := by
  have := needs_spec hf h
  apply Array.ext'
  simpa using this
theorem partsV_spec {f : Operand → Option Value} {ρ : Operand → Value} (hf : ∀ x v, f x = some v → ρ x = v) : ∀ {l : List (Nat × Operand)} {vs : List (Nat × Value)}, partsV f l = some vs → l.map (fun (i, x) => (i, ρ x)) = vs
  | [], vs, h => by simp [partsV] at h; simp [← h]
  | (i, x) :: l, vs, h => by
    unfold partsV at h
    split at h
    · rename_i v us h1 h2
      cases h
      simp [hf _ _ h1, partsV_spec hf h2]
    · cases h

theorem cellsAt_spec {w : World} {a : Addr} : ∀ {vs : List Value} {i : Nat}, cellsAt w a i vs → ∀ j v, vs[j]? = some v → w.cell? (a.add (i + j)) = some v
  | [], _, _, j, v, h => by simp at h
  | x :: vs, i, ⟨h0, h1⟩, j, v, h => by
    cases j with
    | zero => simp at h; subst h; simpa using h0
    | succ j => have := cellsAt_spec h1 j v (by simpa using h); rwa [show i + (j + 1) = i + 1 + j by omega]
theorem cellsAt_of {w : World} {a : Addr} : ∀ {vs : List Value} {i : Nat}, (∀ j v, vs[j]? = some v → w.cell? (a.add (i + j)) = some v) → cellsAt w a i vs
  | [], _, _ => trivial
  | x :: vs, i, h => ⟨by have := h 0 x rfl; simpa using this, cellsAt_of fun j v hj => by have := h (j + 1) v (by simpa using hj); rwa [show i + 1 + j = i + (j + 1) by omega]⟩

theorem maxL_spec {P : Program} {w : World} : ∀ (l : List Value) (x z : Int) (k : IntKind), maxL x l = some z → (l.foldlM Builtin.max2 (.int k x)).run P w = .ok (.int k z) w
  | [], x, z, k, h => by simp [maxL] at h; simp [h]
  | v :: l, x, z, k, h => by
    cases v <;> simp only [maxL] at h
    all_goals try (cases h; done)
    rename_i k' y
    have ih := maxL_spec (P := P) (w := w) l _ z k h
    rw [List.foldlM_cons]
    have e : (if y > x then y else x) = max x y := by rw [Int.max_def]; split <;> split <;> omega
    simp [Builtin.max2, e, ih]
theorem minL_spec {P : Program} {w : World} : ∀ (l : List Value) (x z : Int) (k : IntKind), minL x l = some z → (l.foldlM Builtin.min2 (.int k x)).run P w = .ok (.int k z) w
  | [], x, z, k, h => by simp [minL] at h; simp [h]
  | v :: l, x, z, k, h => by
    cases v <;> simp only [minL] at h
    all_goals try (cases h; done)
    rename_i k' y
    have ih := minL_spec (P := P) (w := w) l _ z k h
    rw [List.foldlM_cons]
    have e : (if y < x then y else x) = min x y := by rw [Int.min_def]; split <;> split <;> omega
    simp [Builtin.min2, e, ih]

theorem kindEq_spec {j k : IntKind} (h : kindEq j k = true) : j = k := by cases j <;> cases k <;> first | rfl | cases h

theorem intD_spec {P : Program} {c : List (Bool × Bool)} (hc : conds c) {op : BinOp} {k : IntKind} {x y : Int} {K : Value → Prop} (h : intD c op k x y K) (hs : op ≠ .shl ∧ op ≠ .shr) :
    ∃ v, (∀ w, (binOp op 0 (.int k x) (.int k y)).run P w = .ok v w) ∧ K v := by
  cases op <;> simp only [intD] at h <;> try (exact h.elim)
  case add => exact ⟨_, fun w => by simp [binOp, Op.intArith], h⟩
  case sub => exact ⟨_, fun w => by simp [binOp, Op.intArith], h⟩
  case mul => exact ⟨_, fun w => by simp [binOp, Op.intArith], h⟩
  case quo => exact ⟨_, fun w => by simp [binOp, Op.intDiv, under_elim h.1 hc], h.2⟩
  case rem => exact ⟨_, fun w => by simp [binOp, Op.intDiv, under_elim h.1 hc], h.2⟩
  case and => exact ⟨_, fun w => by simp [binOp, Op.intBits, bitI], h⟩
  case or => exact ⟨_, fun w => by simp [binOp, Op.intBits, bitI], h⟩
  case xor => exact ⟨_, fun w => by simp [binOp, Op.intBits, bitI], h⟩
  case andNot => exact ⟨_, fun w => by simp [binOp, Op.intBits, bitI], h⟩
  case eql => exact ⟨_, fun w => by simp [binOp, Op.intCmp]; rfl, h⟩
  case neq => exact ⟨_, fun w => by simp [binOp, Op.intCmp, bne]; rfl, h⟩
  case lss => exact ⟨_, fun w => by simp [binOp, Op.intCmp], h⟩
  case leq => exact ⟨_, fun w => by simp [binOp, Op.intCmp], h⟩
  case gtr => exact ⟨_, fun w => by simp [binOp, Op.intCmp], h⟩
  case geq => exact ⟨_, fun w => by simp [binOp, Op.intCmp], h⟩

theorem binOp_int_type {op : BinOp} {t : Nat} {k : IntKind} {x y : Int} : binOp op t (.int k x) (.int k y) = binOp op 0 (.int k x) (.int k y) := by cases op <;> rfl

theorem str_eq (x y : ByteArray) : (x.toList == y.toList) = decide (x = y) := by
  by_cases h : x = y
  · simp [h]
  · have : x.toList ≠ y.toList := fun he => h (by
      have e1 : x.data.toList = y.data.toList := by rwa [ByteArray.toList_eq, ByteArray.toList_eq] at he
      cases x; cases y; congr 1; exact Array.ext' e1)
    simp [h, this]

end Go.Den

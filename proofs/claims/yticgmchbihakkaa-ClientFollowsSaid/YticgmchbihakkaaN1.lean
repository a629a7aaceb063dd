/- Numbers: what wraps and shifts are. -/
import Derived.Test.YticgmchbihakkaaM2
import Derived.Laws.Bits64
set_option linter.unusedVariables false
set_option linter.unusedSimpArgs false
namespace Go.Den
open Go

theorem w64 {n : Int} (h : -9223372036854775808 ≤ n ∧ n ≤ 9223372036854775807) : IntKind.i64.wrap n = n := by rw [IntKind.wrap_i64]; omega
theorem wu8 (n : Int) : IntKind.u8.wrap n = n % 256 := by rw [IntKind.wrap_u8]
theorem wu32 (n : Int) : IntKind.u32.wrap n = n % 4294967296 := by rw [IntKind.wrap_u32]
theorem wu64 (n : Int) : IntKind.u64.wrap n = n % 18446744073709551616 := by rw [IntKind.wrap_u64]
theorem w64n (n : Nat) (h : n ≤ 9223372036854775807) : IntKind.i64.wrap (n : Int) = n := w64 (by omega)

theorem shr_nat (k : IntKind) (a b : Nat) (hb : b ≤ k.bits) : shrI k (a : Int) (b : Int) = ((a >>> b : Nat) : Int) := by
  unfold shrI
  rw [Int.toNat_natCast, Nat.min_eq_left hb, Nat.shiftRight_eq_div_pow, Int.fdiv_eq_ediv_of_nonneg _ (Int.le_of_lt (Int.pow_pos (by decide)))]
  norm_cast
theorem shl_nat (k : IntKind) (a b : Nat) (hb : b ≤ k.bits) : shlI k (a : Int) (b : Int) = k.wrap ((a <<< b : Nat) : Int) := by
  unfold shlI
  rw [Int.toNat_natCast, Nat.min_eq_left hb, Nat.shiftLeft_eq]
  norm_cast

theorem or_w (k : IntKind) (x y : Nat) (hx : x < 2 ^ k.bits) (hy : y < 2 ^ k.bits) : bitI .or k (x : Int) (y : Int) = k.wrap ((x ||| y : Nat) : Int) := by
  have h : ∀ z : Nat, z < 2 ^ k.bits → (BitVec.ofInt k.bits (z : Int)).toNat = z := fun z hz => by
    rw [BitVec.toNat_ofInt]
    have : ((2 ^ k.bits : Nat) : Int) = 2 ^ k.bits := by norm_cast
    rw [Int.emod_eq_of_lt (by omega) (by exact_mod_cast hz)]
    simp
  unfold bitI
  simp only [BitVec.toNat_or, h x hx, h y hy]
theorem and_w (k : IntKind) (x y : Nat) (hx : x < 2 ^ k.bits) (hy : y < 2 ^ k.bits) : bitI .and k (x : Int) (y : Int) = k.wrap ((x &&& y : Nat) : Int) := by
  have h : ∀ z : Nat, z < 2 ^ k.bits → (BitVec.ofInt k.bits (z : Int)).toNat = z := fun z hz => by
    rw [BitVec.toNat_ofInt]
    rw [Int.emod_eq_of_lt (by omega) (by exact_mod_cast hz)]
    simp
  unfold bitI
  simp only [BitVec.toNat_and, h x hx, h y hy]
theorem xor_w (k : IntKind) (x y : Nat) (hx : x < 2 ^ k.bits) (hy : y < 2 ^ k.bits) : bitI .xor k (x : Int) (y : Int) = k.wrap ((x ^^^ y : Nat) : Int) := by
  have h : ∀ z : Nat, z < 2 ^ k.bits → (BitVec.ofInt k.bits (z : Int)).toNat = z := fun z hz => by
    rw [BitVec.toNat_ofInt]
    rw [Int.emod_eq_of_lt (by omega) (by exact_mod_cast hz)]
    simp
  unfold bitI
  simp only [BitVec.toNat_xor, h x hx, h y hy]
theorem or64 (x y : Nat) (hx : x < 2 ^ 63) (hy : y < 2 ^ 63) : bitI .or .i64 (x : Int) (y : Int) = ((x ||| y : Nat) : Int) := by
  rw [or_w _ _ _ (by simp [IntKind.bits]; omega) (by simp [IntKind.bits]; omega)]
  have := Nat.or_lt_two_pow hx hy
  exact w64n _ (by omega)

theorem u8_toNat (n : Nat) : (UInt8.ofNat n).toNat = n % 256 := by simp
theorem bv_ofNat (n : Nat) : bv (UInt8.ofNat n) = .int .u8 ((n : Int) % 256) := by simp [bv]
theorem bv_wrap (n : Nat) : (.int .u8 (IntKind.u8.wrap (n : Int)) : Value) = bv (UInt8.ofNat n) := by rw [bv_ofNat, wu8]

theorem Own.one {w : World} {e sz n : Nat} {v : Value} {xs : List Value} (h : Own w e sz v n xs) : v.oneCell' = true := by
  obtain ⟨A, c, rfl, _⟩ := h.slice
  rfl
theorem Fr.more {D : Nat → Prop} {a b c : World} (h : Fr D a b) (k : Fr None b c) : Fr D a c := h.andThen k fun _ h => h.elim
theorem snoc_ind {α : Type} {P : List α → Prop} (h0 : P []) (h1 : ∀ xs c, P xs → P (xs ++ [c])) (xs : List α) : P xs := by
  have : ∀ ys : List α, P ys.reverse := by
    intro ys
    induction ys with
    | nil => exact h0
    | cons c ys ih => rw [List.reverse_cons]; exact h1 _ _ ih
  simpa using this xs.reverse
theorem no_none (k : Nat) : ¬ None k := id

theorem Own.ex {w : World} {e sz n : Nat} {v : Value} {xs : List Value} (h : Own w e sz v n xs) : ∃ A c, v = .slice A n c := by
  obtain ⟨A, c, rfl, _⟩ := h.slice
  exact ⟨A, c, rfl⟩

/-- append(v, x...). -/
theorem ap_many {P : Program} {t e sz bytes : Nat} {z : Value} (he : ElemTy P t e sz bytes z) {w : World} {v : Value} {n : Nat} {xs : List Value} (hv : Own w e sz v n xs) {A : Option Addr} {m c : Nat} {ys : List Value} (hA : A = none → m = 0 ∧ c = 0) (hx : Rd w A ys) (hl : ys.length = m * sz)
    (h1 : ∀ u ∈ ys, u.oneCell' = true) (hb : (n + m) * bytes ≤ 140737488355328) (ty : Nat) :
    ∃ A' c' w', (Builtin.append_ #[t, t] ty #[v, .slice A m c]).run P w = .ok (.slice A' (n + m) c') w' ∧ Own w' e sz (.slice A' (n + m) c') (n + m) (xs ++ ys) ∧ Fr (fun k => v.ownBlock = some k) w w' ∧ ((Value.slice A' (n + m) c').ownBlock = v.ownBlock ∨ (Value.slice A' (n + m) c').ownBlock = some w.heap.size) := by
  obtain ⟨v', w', h1, h2, h3, h4⟩ := ap_own he hv hA hx hl h1 hb ty
  obtain ⟨A', c', rfl⟩ := h2.ex
  exact ⟨A', c', w', h1, h2, h3, h4⟩

/-- append(v, one): the element was just built. -/
theorem ap_one {P : Program} {t e sz bytes : Nat} {z : Value} (he : ElemTy P t e sz bytes z) {w : World} {v : Value} {n : Nat} {xs : List Value} (hv : Own w e sz v n xs) {b : Nat} {cs : List Value} (hb : w.heap[b]? = some (.cells cs.toArray e (0, 0))) (hl : cs.length = sz)
    (h1 : ∀ u ∈ cs, u.oneCell' = true) (hm : (n + 1) * bytes ≤ 140737488355328) (ty : Nat) :
    ∃ A' c' w', (Builtin.append_ #[t, t] ty #[v, .slice (some ⟨b, 0, none⟩) 1 1]).run P w = .ok (.slice A' (n + 1) c') w' ∧ Own w' e sz (.slice A' (n + 1) c') (n + 1) (xs ++ cs) ∧ Fr (fun k => v.ownBlock = some k) w w' ∧ ((Value.slice A' (n + 1) c').ownBlock = v.ownBlock ∨ (Value.slice A' (n + 1) c').ownBlock = some w.heap.size) :=
  ap_many he hv (A := some ⟨b, 0, none⟩) (m := 1) (c := 1) (by simp) (.inr ⟨b, 0, _, _, _, rfl, hb, by intro i u hu; simpa using hu⟩) (by simpa using hl) h1 hm ty

theorem byte_one (x : UInt8) : ∀ u ∈ [bv x], u.oneCell' = true := by
  intro u hu
  simp at hu
  subst hu
  rfl

/-- append(v, byte). -/
theorem ap_byte {P : Program} {t e : Nat} (he : ElemTy P t e 1 1 (.int .u8 0)) {w : World} {v : Value} {xs : Bytes} (hv : OwnB w e v xs) {b : Nat} {x : UInt8} {u : Value} (hu : u = bv x) (hb : w.heap[b]? = some (.cells [u].toArray e (0, 0)))
    (hm : xs.length ≤ 140737488355327) (ty : Nat) :
    ∃ A' c' w', (Builtin.append_ #[t, t] ty #[v, .slice (some ⟨b, 0, none⟩) 1 1]).run P w = .ok (.slice A' (xs.length + 1) c') w' ∧ OwnB w' e (.slice A' (xs.length + 1) c') (xs ++ [x]) ∧ Fr (fun k => v.ownBlock = some k) w w' ∧ ((Value.slice A' (xs.length + 1) c').ownBlock = v.ownBlock ∨ (Value.slice A' (xs.length + 1) c').ownBlock = some w.heap.size) := by
  subst hu
  obtain ⟨A', c', w', h1, h2, h3, h4⟩ := ap_one he (sz := 1) hv hb rfl (byte_one x) (by omega) ty
  refine ⟨A', c', w', h1, ?_, h3, h4⟩
  unfold OwnB
  rw [bvs_append, List.length_append]
  exact h2

/-- append(v, bytes...). -/
theorem ap_bytes {P : Program} {t e : Nat} (he : ElemTy P t e 1 1 (.int .u8 0)) {w : World} {v : Value} {xs : Bytes} (hv : OwnB w e v xs) {A : Option Addr} {m c : Nat} {ys : Bytes} (hA : A = none → m = 0 ∧ c = 0) (hx : RdB w A m ys)
    (hm : xs.length + m ≤ 140737488355327) (ty : Nat) :
    ∃ A' c' w', (Builtin.append_ #[t, t] ty #[v, .slice A m c]).run P w = .ok (.slice A' (xs.length + m) c') w' ∧ OwnB w' e (.slice A' (xs.length + m) c') (xs ++ ys) ∧ Fr (fun k => v.ownBlock = some k) w w' ∧ ((Value.slice A' (xs.length + m) c').ownBlock = v.ownBlock ∨ (Value.slice A' (xs.length + m) c').ownBlock = some w.heap.size) := by
  obtain ⟨A', c', w', h1, h2, h3, h4⟩ := ap_many he hv (m := m) (c := c) hA hx.2 (by simpa using hx.1) (bvs_one ys) (by omega) ty
  refine ⟨A', c', w', h1, ?_, h3, h4⟩
  unfold OwnB
  rw [bvs_append, List.length_append, hx.1]
  exact h2

theorem st_ok {w : World} {b i : Nat} {c : Array Value} {t : TypeId} {v : Value} (h : w.heap[b]? = some (.cells c t (0, 0))) (hi : i < c.size) (hv : v.oneCell' = true) : wrAt w ⟨b, i, none⟩ 0 [v] :=
  (st1 (K := fun _ => True) h hi hv fun _ _ _ _ => trivial).1
theorem st_fx {w w1 : World} {b i : Nat} {c : Array Value} {t : TypeId} {v : Value} (h : w.heap[b]? = some (.cells c t (0, 0))) (e : w1 = setCells w ⟨b, i, none⟩ 0 [v]) :
    w1.heap[b]? = some (.cells (c.setIfInBounds i v) t (0, 0)) ∧ Fr (· = b) w w1 ∧ w1.heap.size = w.heap.size := by
  subst e
  exact ⟨heap_setCell_same h v, Fr.setCell w ⟨b, i, none⟩ v, by simp [setCells]⟩

end Go.Den

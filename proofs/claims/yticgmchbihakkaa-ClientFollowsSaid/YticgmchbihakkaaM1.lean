/- Memory, part 1: what a step of the world leaves as it was; blocks, cells, stores. -/
import Derived.Test.YticgmchbihakkaaE7
set_option linter.unusedVariables false
set_option linter.unusedSimpArgs false
namespace Go.Den
open Go

/-- All old blocks but those in D are as they were. -/
structure Fr (D : Nat → Prop) (w w' : World) : Prop where
  os : w'.os = w.os
  tape : w'.tape = w.tape
  output : w'.output = w.output
  size : w.heap.size ≤ w'.heap.size
  block : ∀ k, k < w.heap.size → ¬ D k → w'.heap[k]? = w.heap[k]?

def None : Nat → Prop := fun _ => False

theorem Fr.refl (D : Nat → Prop) (w : World) : Fr D w w := ⟨rfl, rfl, rfl, Nat.le_refl _, fun _ _ _ => rfl⟩
theorem Fr.trans {D D' E : Nat → Prop} {a b c : World} (h : Fr D a b) (k : Fr D' b c) (h1 : ∀ i, i < a.heap.size → D i → E i) (h2 : ∀ i, i < a.heap.size → D' i → E i) : Fr E a c :=
  ⟨k.os.trans h.os, k.tape.trans h.tape, k.output.trans h.output, Nat.le_trans h.size k.size, fun i hi he =>
    (k.block i (Nat.lt_of_lt_of_le hi h.size) fun hd => he (h2 i hi hd)).trans (h.block i hi fun hd => he (h1 i hi hd))⟩
/-- The usual case: what the second step turns was turned by the first or is new. -/
theorem Fr.andThen {D D' : Nat → Prop} {a b c : World} (h : Fr D a b) (k : Fr D' b c) (hs : ∀ i, D' i → D i ∨ a.heap.size ≤ i) : Fr D a c :=
  h.trans k (fun _ _ hd => hd) fun i hi hd => (hs i hd).elim id fun hle => absurd hi (by omega)
theorem Fr.mono {D E : Nat → Prop} {a b : World} (h : Fr D a b) (hs : ∀ i, i < a.heap.size → D i → E i) : Fr E a b := ⟨h.os, h.tape, h.output, h.size, fun k hk he => h.block k hk fun hd => he (hs k hk hd)⟩
theorem Fr.blk {D : Nat → Prop} {w w' : World} (h : Fr D w w') {b : Nat} {o : Obj} (hb : w.heap[b]? = some o) (hd : ¬ D b) : w'.heap[b]? = some o :=
  (h.block b (Array.getElem?_eq_some_iff.1 hb).1 hd).trans hb
theorem Fr.drew {D : Nat → Prop} {a w : World} (h : Fr D a w) : Fr D a w.drew := ⟨h.os, h.tape, h.output, h.size, h.block⟩
theorem Fr.none_alloc (w : World) (o : Obj) : Fr None w (w.alloc o) := ⟨rfl, rfl, rfl, by simp, fun k hk _ => by
  show (w.heap.push o)[k]? = _
  rw [Array.getElem?_push, if_neg (by omega)]⟩
theorem Fr.setCell (w : World) (a : Addr) (v : Value) : Fr (· = a.block) w (w.setCell a v) := ⟨rfl, rfl, rfl, by simp, fun k _ hk => RowKit.Below.heap_setCell w a v k hk⟩
theorem Fr.below {D : Nat → Prop} {w w' : World} (h : Fr D w w') {B : Nat} (hB : B ≤ w.heap.size) (hd : ∀ i, D i → B ≤ i) : RowKit.Below B w w' :=
  ⟨h.os, h.tape, h.output, h.size, fun k hk => h.block k (by omega) fun hD => by have := hd k hD; omega⟩
theorem Fr.none_below {w w' : World} (h : Fr None w w') : RowKit.Below w.heap.size w w' := h.below (Nat.le_refl _) fun _ h => h.elim
theorem Fr.putObj (w : World) (l : Nat) (o : Obj) : Fr (· = l) w { w with heap := w.heap.setIfInBounds l o } := ⟨rfl, rfl, rfl, by simp, fun k _ hk => by
  show (w.heap.setIfInBounds l o)[k]? = _
  rw [Array.getElem?_setIfInBounds, if_neg (Ne.symm hk)]⟩

theorem lt_of_blk {w : World} {b : Nat} {o : Obj} (h : w.heap[b]? = some o) : b < w.heap.size := (Array.getElem?_eq_some_iff.1 h).1

theorem add_mk (b o n : Nat) : (⟨b, o, none⟩ : Addr).add n = ⟨b, o + n, none⟩ := by unfold Addr.add; split <;> simp_all

/-- A cell of a block. -/
theorem cell_of {w : World} {b i : Nat} {c : Array Value} {t : TypeId} {fz : Nat × Nat} {v : Value} (h : w.heap[b]? = some (.cells c t fz)) (hi : c[i]? = some v) : w.cell? ⟨b, i, none⟩ = some v := by
  simp [World.cell?, h, hi]
theorem frozen_of {w : World} {b i : Nat} {c : Array Value} {t : TypeId} (h : w.heap[b]? = some (.cells c t (0, 0))) : w.frozen? ⟨b, i, none⟩ = false := by
  simp [World.frozen?, h]

theorem heap_setCell_same {w : World} {b i : Nat} {c : Array Value} {t : TypeId} {fz : Nat × Nat} (h : w.heap[b]? = some (.cells c t fz)) (v : Value) : (w.setCell ⟨b, i, none⟩ v).heap[b]? = some (.cells (c.setIfInBounds i v) t fz) := by
  simp [World.setCell, Array.getElem?_modify, h]

/-- A new block: what is known of it. -/
theorem new_of {w w1 : World} {b : Nat} {o : Obj} (hb : b = w.heap.size) (hw : w1 = w.alloc o) : w1.heap[b]? = some o ∧ Fr None w w1 ∧ b = w.heap.size ∧ w1.heap.size = w.heap.size + 1 := by
  subst hb; subst hw
  exact ⟨by show (w.heap.push o)[w.heap.size]? = _; simp, Fr.none_alloc w o, rfl, by simp⟩

/-- A store into one field. -/
theorem st1 {w : World} {b i : Nat} {c : Array Value} {t : TypeId} {v : Value} {K : World → Prop} (h : w.heap[b]? = some (.cells c t (0, 0))) (hi : i < c.size) (hv : v.oneCell' = true)
    (hk : ∀ w1, w1.heap[b]? = some (.cells (c.setIfInBounds i v) t (0, 0)) → Fr (· = b) w w1 → w1.heap.size = w.heap.size → K w1) : wrAt w ⟨b, i, none⟩ 0 [v] ∧ ∀ w1, w1 = setCells w ⟨b, i, none⟩ 0 [v] → K w1 := by
  have e0 : (⟨b, i, none⟩ : Addr).add 0 = ⟨b, i, none⟩ := rfl
  refine ⟨⟨⟨⟨c[i], cell_of h (by simp [hi])⟩, frozen_of h, hv⟩, trivial⟩, ?_⟩
  rintro w1 rfl
  exact hk _ (heap_setCell_same h v) (Fr.setCell w ⟨b, i, none⟩ v) (by simp [setCells])

/-- A store of several cells, from a place on. -/
theorem stN : ∀ {vs : List Value} {w : World} {b i : Nat} {c : Array Value} {t : TypeId} {k : Nat}, w.heap[b]? = some (.cells c t (0, 0)) → i + k + vs.length ≤ c.size → (∀ v ∈ vs, v.oneCell' = true) →
    wrAt w ⟨b, i, none⟩ k vs ∧ (setCells w ⟨b, i, none⟩ k vs).heap[b]? = some (.cells (c.toList.take (i + k) ++ vs ++ c.toList.drop (i + k + vs.length)).toArray t (0, 0)) ∧ Fr (· = b) w (setCells w ⟨b, i, none⟩ k vs) ∧ (setCells w ⟨b, i, none⟩ k vs).heap.size = w.heap.size
  | [], w, b, i, c, t, k, h, hi, hv => ⟨trivial, by simp [setCells, h], Fr.refl _ _, rfl⟩
  | v :: vs, w, b, i, c, t, k, h, hi, hv => by
    simp only [List.length_cons] at hi
    have ha : (⟨b, i, none⟩ : Addr).add k = ⟨b, i + k, none⟩ := add_mk b i k
    have h1 := heap_setCell_same (i := i + k) h v
    obtain ⟨j1, j2, j3, j4⟩ := stN (vs := vs) (w := w.setCell ⟨b, i + k, none⟩ v) (b := b) (i := i) (k := k + 1) h1 (by simp; omega) (fun u hu => hv u (by simp [hu]))
    refine ⟨⟨⟨⟨c[i + k], by rw [ha]; exact cell_of h (by simp [show i + k < c.size by omega])⟩, by rw [ha]; exact frozen_of h, hv v (by simp)⟩, by rw [ha]; exact j1⟩, ?_, ?_, ?_⟩
    · simp only [setCells, ha]
      rw [j2]
      congr 2
      apply Array.ext'
      simp only [Array.toList_setIfInBounds, List.length_cons]
      apply List.ext_getElem?
      intro j
      simp only [List.getElem?_append, List.length_append, List.length_take, List.length_set, List.getElem?_take, List.getElem?_drop, List.getElem?_set, List.length_cons, List.getElem?_cons, Array.length_toList]
      repeat' split
      all_goals first | rfl | omega | skip
      all_goals first | (congr 1; omega) | skip
      all_goals simp_all
      all_goals first | (congr 1; omega) | omega
    · simp only [setCells, ha]
      exact (Fr.setCell w ⟨b, i + k, none⟩ v).andThen j3 fun i hi => .inl hi
    · simp only [setCells, ha]; rw [j4]; simp

end Go.Den

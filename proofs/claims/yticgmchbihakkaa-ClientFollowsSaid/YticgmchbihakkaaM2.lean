/- Memory, part 2: slices that are read, slices that are owned; append. -/
import Derived.Test.YticgmchbihakkaaM1
import Derived.Maps.AppendAt
import Derived.Laws.OwnMore
import Derived.OwnWalk
set_option linter.unusedVariables false
set_option linter.unusedSimpArgs false
namespace Go.Den
open Go

/-- A slice type, its element's type, cells, bytes and zero. -/
structure ElemTy (P : Program) (t e sz bytes : Nat) (z : Value) : Prop where
  under : P.underlying t = some (.slice e)
  info : (P.info? e).map (fun i => (i.zero, i.size, i.bytes)) = some (some z, sz, bytes)
  zcells : z.cells.size = sz
  pos : 0 < sz
  bpos : 0 < bytes

/-- The cells behind a slice's address. -/
def Rd (w : World) (A : Option Addr) (vs : List Value) : Prop :=
  vs = [] ∨ ∃ b o c t fz, A = some ⟨b, o, none⟩ ∧ w.heap[b]? = some (.cells c t fz) ∧ ∀ j u, vs[j]? = some u → c[o + j]? = some u

def blkOf (A : Option Addr) : Option Nat := A.map (·.block)

theorem Rd.nil (w : World) (A : Option Addr) : Rd w A [] := .inl rfl
theorem Rd.fr {D : Nat → Prop} {w w' : World} {A : Option Addr} {vs : List Value} (h : Rd w A vs) (hf : Fr D w w') (hd : ∀ b, blkOf A = some b → b < w.heap.size → ¬ D b) : Rd w' A vs := by
  rcases h with rfl | ⟨b, o, c, t, fz, rfl, hb, hc⟩
  · exact .inl rfl
  · exact .inr ⟨b, o, c, t, fz, rfl, hf.blk hb (hd b rfl (lt_of_blk hb)), hc⟩
theorem Rd.cell {w : World} {A : Option Addr} {vs : List Value} (h : Rd w A vs) {j : Nat} {u : Value} (hj : vs[j]? = some u) : ∃ a, A = some a ∧ w.cell? (a.add j) = some u := by
  rcases h with rfl | ⟨b, o, c, t, fz, rfl, hb, hc⟩
  · simp at hj
  · exact ⟨_, rfl, by rw [add_mk]; exact cell_of hb (hc j u hj)⟩
theorem Rd.lt {w : World} {A : Option Addr} {vs : List Value} (h : Rd w A vs) (hne : vs ≠ []) : ∃ b, blkOf A = some b ∧ b < w.heap.size := by
  rcases h with rfl | ⟨b, o, c, t, fz, rfl, hb, hc⟩
  · exact absurd rfl hne
  · exact ⟨b, rfl, lt_of_blk hb⟩
theorem Rd.take {w : World} {A : Option Addr} {vs : List Value} (h : Rd w A vs) (k : Nat) : Rd w A (vs.take k) := by
  rcases h with rfl | ⟨b, o, c, t, fz, rfl, hb, hc⟩
  · exact .inl (by simp)
  · refine .inr ⟨b, o, c, t, fz, rfl, hb, fun j u hj => hc j u ?_⟩
    rw [List.getElem?_take] at hj
    split at hj
    · exact hj
    · cases hj
/-- The cells from place k on: what 'xs[i:]' reads. -/
theorem Rd.drop {w : World} {A : Option Addr} {vs : List Value} (h : Rd w A vs) (k : Nat) : Rd w (A.map (·.add k)) (vs.drop k) := by
  rcases h with rfl | ⟨b, o, c, t, fz, rfl, hb, hc⟩
  · exact .inl (by simp)
  · refine .inr ⟨b, o + k, c, t, fz, by simp [add_mk], hb, fun j u hj => ?_⟩
    rw [List.getElem?_drop] at hj
    have := hc (k + j) u hj
    rwa [show o + k + j = o + (k + j) by omega]
/-- The cells of one element, as a load of a struct wants them. -/
theorem Rd.cellsAt {w : World} {A : Option Addr} {vs : List Value} (h : Rd w A vs) {k : Nat} {us : List Value} (hne : us ≠ []) (hk : ∀ j u, us[j]? = some u → vs[k + j]? = some u) : ∃ a, A = some a ∧ Den.cellsAt w (a.add k) 0 us := by
  rcases h with rfl | ⟨b, o, c, t, fz, rfl, hb, hc⟩
  · obtain ⟨u, hu⟩ := List.exists_mem_of_ne_nil us hne
    obtain ⟨j, hj, he⟩ := List.getElem_of_mem hu
    have := hk j u (by rw [List.getElem?_eq_getElem hj, he])
    simp at this
  · refine ⟨_, rfl, cellsAt_of fun j u hj => ?_⟩
    rw [add_mk, Nat.zero_add, add_mk]
    have := hc _ _ (hk j u hj)
    exact cell_of hb (by rwa [show o + k + j = o + (k + j) by omega])

/-- A slice that is owned: nil, or at the head of a row of its own. xs: its cells. -/
def Own (w : World) (e sz : Nat) (v : Value) (n : Nat) (xs : List Value) : Prop := w.ownsRow 0 e sz v n xs

theorem fr_of_grown {w w' : World} {row : Option Nat} (h : w.grownBy w' row) : Fr (fun k => row = some k) w w' :=
  ⟨h.os, h.tape, h.output, h.size, fun k hk hd => h.block k hk fun e => hd e.symm⟩

theorem Own.nil (w : World) (e sz : Nat) : Own w e sz (.slice none 0 0) 0 [] := World.ownsRow_nil w 0 e sz
theorem Own.fr {D : Nat → Prop} {w w' : World} {e sz n : Nat} {v : Value} {xs : List Value} (h : Own w e sz v n xs) (hf : Fr D w w') (hd : ∀ b, v.ownBlock = some b → b < w.heap.size → ¬ D b) : Own w' e sz v n xs := by
  refine ⟨h.1, ?_⟩
  rcases h.2 with ⟨rfl, rfl⟩ | ⟨g, cap, cur, rfl, hb, hg, r⟩
  · exact .inl ⟨rfl, rfl⟩
  · exact .inr ⟨g, cap, cur, rfl, hb, hf.blk hg (hd g rfl (lt_of_blk hg)), r⟩
theorem Own.slice {w : World} {e sz n : Nat} {v : Value} {xs : List Value} (h : Own w e sz v n xs) : ∃ A c, v = .slice A n c ∧ Rd w A xs ∧ blkOf A = v.ownBlock ∧ n ≤ c ∧ c ≤ maxLen := by
  rcases h.2 with ⟨rfl, rfl⟩ | ⟨g, cap, cur, rfl, hb, hg, hnc, hcm, hcs, ht⟩
  · have := h.1; simp at this; subst this; exact ⟨none, 0, rfl, .inl rfl, rfl, Nat.le_refl _, by simp [maxLen]⟩
  · refine ⟨_, cap, rfl, .inr ⟨g, 0, cur, e, _, rfl, hg, fun j u hj => ?_⟩, rfl, hnc, hcm⟩
    rw [← ht, List.getElem?_take] at hj
    split at hj
    · simpa using hj
    · cases hj
theorem Own.lt {w : World} {e sz n : Nat} {v : Value} {xs : List Value} (h : Own w e sz v n xs) : ∀ b, v.ownBlock = some b → b < w.heap.size := by
  intro b hb
  rcases h.2 with ⟨rfl, rfl⟩ | ⟨g, cap, cur, rfl, _, hg, _⟩
  · cases hb
  · cases hb; exact lt_of_blk hg
theorem Own.len {w : World} {e sz n : Nat} {v : Value} {xs : List Value} (h : Own w e sz v n xs) : xs.length = n * sz := h.1
/-- The row's block has the element's type. -/
theorem Own.blk {w : World} {e sz n : Nat} {v : Value} {xs : List Value} (h : Own w e sz v n xs) : ∀ b, v.ownBlock = some b → ∃ c, w.heap[b]? = some (.cells c e (0, 0)) := by
  intro b hb
  rcases h.2 with ⟨rfl, rfl⟩ | ⟨g, cap, cur, rfl, _, hg, _⟩
  · cases hb
  · cases hb; exact ⟨cur, hg⟩
theorem Own.ne_of_type {w : World} {e sz n : Nat} {v : Value} {xs : List Value} (h : Own w e sz v n xs) {b : Nat} {c : Array Value} {t : TypeId} {fz} (hb : w.heap[b]? = some (.cells c t fz)) (ht : t ≠ e) : v.ownBlock ≠ some b := by
  intro hv
  obtain ⟨c', hc⟩ := h.blk b hv
  rw [hb] at hc; injection hc with hc; injection hc with _ h1 _; exact ht h1

section
variable {P : Program} {t e sz bytes : Nat} {z : Value}

/-- append(v, x...): v owned, x read. -/
theorem ap_own (he : ElemTy P t e sz bytes z) {w : World} {v : Value} {n : Nat} {xs : List Value} (hv : Own w e sz v n xs) {A : Option Addr} {m c : Nat} {ys : List Value} (hA : A = none → m = 0 ∧ c = 0) (hx : Rd w A ys) (hl : ys.length = m * sz)
    (h1 : ∀ u ∈ ys, u.oneCell' = true) (hb : (n + m) * bytes ≤ 140737488355328) (ty : Nat) :
    ∃ v' w', (Builtin.append_ #[t, t] ty #[v, .slice A m c]).run P w = .ok v' w' ∧ Own w' e sz v' (n + m) (xs ++ ys) ∧ Fr (fun k => v.ownBlock = some k) w w' ∧ (v'.ownBlock = v.ownBlock ∨ v'.ownBlock = some w.heap.size) := by
  obtain ⟨i, hi, hz, hs, hby⟩ := info_parts he.info
  have hle : n + m ≤ maxLen := by
    have : n + m ≤ (n + m) * bytes := Nat.le_mul_of_pos_right _ he.bpos
    simp only [maxLen]; omega
  cases A with
  | none =>
    obtain ⟨rfl, rfl⟩ := hA rfl
    have : ys = [] := List.eq_nil_of_length_eq_zero (by simpa using hl)
    subst this
    exact ⟨v, w, run_append_owned_none (P := P) w 0 t ty e i sz he.under hi v n xs hv, by simpa using hv, Fr.refl _ _, .inl rfl⟩
  | some a =>
    have hnews : ∀ j u, ys[j]? = some u → w.cell? (a.add j) = some u := fun j u hj => by
      obtain ⟨a', e', hc⟩ := hx.cell hj
      cases e'; exact hc
    obtain ⟨v', w', hr, ho, hg, _, hat⟩ := run_append_own_at (P := P) w 0 t ty e i z sz bytes he.under hi hz hs hby he.zcells he.pos v n xs hv a m c ys hl hnews h1 hle hb (Nat.zero_le _)
    exact ⟨v', w', hr, ho, fr_of_grown hg, hat⟩

end

/-- Bytes. -/
def bv (x : UInt8) : Value := .int .u8 (x.toNat : Int)
abbrev Bytes := List UInt8
def bvs (xs : Bytes) : List Value := xs.map bv
theorem bvs_one (xs : Bytes) : ∀ u ∈ bvs xs, u.oneCell' = true := by
  intro u hu
  simp only [bvs, List.mem_map] at hu
  obtain ⟨x, _, rfl⟩ := hu
  rfl
@[simp] theorem bvs_length (xs : Bytes) : (bvs xs).length = xs.length := by simp [bvs]
theorem bvs_append (xs ys : Bytes) : bvs (xs ++ ys) = bvs xs ++ bvs ys := by simp [bvs]
theorem bvs_take (xs : Bytes) (k : Nat) : (bvs xs).take k = bvs (xs.take k) := by simp [bvs]
theorem bvs_drop (xs : Bytes) (k : Nat) : (bvs xs).drop k = bvs (xs.drop k) := by simp [bvs]

/-- A []byte that reads as xs. -/
def RdB (w : World) (A : Option Addr) (n : Nat) (xs : Bytes) : Prop := xs.length = n ∧ Rd w A (bvs xs)
/-- A []byte that is owned (T: byte's type). -/
def OwnB (w : World) (T : Nat) (v : Value) (xs : Bytes) : Prop := Own w T 1 v xs.length (bvs xs)

theorem RdB.fr {D : Nat → Prop} {w w' : World} {A : Option Addr} {n : Nat} {xs : Bytes} (h : RdB w A n xs) (hf : Fr D w w') (hd : ∀ b, blkOf A = some b → b < w.heap.size → ¬ D b) : RdB w' A n xs := ⟨h.1, h.2.fr hf hd⟩
theorem OwnB.fr {D : Nat → Prop} {w w' : World} {T : Nat} {v : Value} {xs : Bytes} (h : OwnB w T v xs) (hf : Fr D w w') (hd : ∀ b, v.ownBlock = some b → b < w.heap.size → ¬ D b) : OwnB w' T v xs := Own.fr h hf hd
theorem OwnB.slice {w : World} {T : Nat} {v : Value} {xs : Bytes} (h : OwnB w T v xs) : ∃ A c, v = .slice A xs.length c ∧ RdB w A xs.length xs ∧ blkOf A = v.ownBlock ∧ xs.length ≤ c ∧ c ≤ maxLen := by
  obtain ⟨A, c, h1, h2, h3, h4, h5⟩ := Own.slice h
  exact ⟨A, c, h1, ⟨rfl, h2⟩, h3, h4, h5⟩
theorem RdB.cell {w : World} {A : Option Addr} {n : Nat} {xs : Bytes} (h : RdB w A n xs) {j : Nat} (hj : j < n) : ∃ a, A = some a ∧ w.cell? (a.add j) = some (bv (xs.getD j 0)) := by
  have hl := h.1
  refine h.2.cell ?_
  simp [bvs, List.getElem?_eq_getElem (show j < xs.length by omega), List.getD_eq_getElem?_getD]

end Go.Den

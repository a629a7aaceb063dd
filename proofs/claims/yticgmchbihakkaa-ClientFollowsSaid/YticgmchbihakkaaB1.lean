/- Byte slices that are read; slices.Clone; wire.Reader's small functions. -/
import Derived.Test.YticgmchbihakkaaW1
set_option linter.unusedVariables false
set_option linter.unusedSimpArgs false
namespace Go.Proofs.Yticgmchbihakkaa
open Go Go.Den
set_option maxRecDepth 100000

/-- A []byte that reads as xs; G: its block. -/
structure IsB (w : World) (v : Value) (G : Option Nat) (xs : Bytes) : Prop where
  ex : ∃ A cap, v = .slice A xs.length cap ∧ (A = none → xs.length = 0 ∧ cap = 0) ∧ xs.length ≤ cap ∧ cap ≤ maxLen ∧ (∀ b, G = some b → b < w.heap.size) ∧ (xs ≠ [] → ∃ b o c t fz, A = some ⟨b, o, none⟩ ∧ G = some b ∧ w.heap[b]? = some (.cells c t fz) ∧ ∀ j x, xs[j]? = some x → c[o + j]? = some (bv x))

theorem IsB.nil (w : World) : IsB w (.slice none 0 0) none [] := ⟨none, 0, rfl, fun _ => ⟨rfl, rfl⟩, Nat.le_refl _, by simp [maxLen], by simp, fun h => absurd rfl h⟩
/-- Bytes in a block. -/
theorem IsB.mk' {w : World} {b o cap : Nat} {xs : Bytes} {c : Array Value} {t : TypeId} {fz : Nat × Nat} (hb : w.heap[b]? = some (.cells c t fz)) (h1 : xs.length ≤ cap) (h2 : cap ≤ maxLen) (h3 : ∀ j x, xs[j]? = some x → c[o + j]? = some (bv x)) : IsB w (.slice (some ⟨b, o, none⟩) xs.length cap) (some b) xs :=
  ⟨_, cap, rfl, by simp, h1, h2, by intro b' h; cases h; exact lt_of_blk hb, fun _ => ⟨b, o, c, t, fz, rfl, rfl, hb, h3⟩⟩

theorem IsB.fr {D : Nat → Prop} {w w' : World} {v : Value} {G : Option Nat} {xs : Bytes} (h : IsB w v G xs) (hf : Fr D w w') (hd : ∀ b, G = some b → b < w.heap.size → ¬ D b) : IsB w' v G xs := by
  obtain ⟨A, cap, e, h1, h2, h3, h4, h5⟩ := h
  refine ⟨A, cap, e, h1, h2, h3, fun b hb => Nat.lt_of_lt_of_le (h4 b hb) hf.size, fun hne => ?_⟩
  obtain ⟨b, o, c, t, fz, e1, e2, e3, e4⟩ := h5 hne
  exact ⟨b, o, c, t, fz, e1, e2, hf.blk e3 (hd b e2 (h4 b e2)), e4⟩
theorem IsB.fr0 {w w' : World} {v : Value} {G : Option Nat} {xs : Bytes} (h : IsB w v G xs) (hf : Fr None w w') : IsB w' v G xs := h.fr hf fun _ _ _ => id
theorem IsB.lt {w : World} {v : Value} {G : Option Nat} {xs : Bytes} (h : IsB w v G xs) : ∀ b, G = some b → b < w.heap.size := by
  obtain ⟨A, cap, e, h1, h2, h3, h4, h5⟩ := h
  exact h4
theorem IsB.of {w : World} {v : Value} {xs : Bytes} (h : OwnB w 5 v xs) : IsB w v v.ownBlock xs := by
  rcases h.2 with ⟨rfl, h0⟩ | ⟨g, cap, cur, rfl, hb, hg, hnc, hcm, hcs, ht⟩
  · have : xs = [] := List.eq_nil_of_length_eq_zero h0
    subst this
    exact .nil w
  · refine .mk' hg hnc hcm fun j x hj => ?_
    have : (bvs xs)[j]? = some (bv x) := by simp [bvs, hj]
    rw [← ht, List.getElem?_take] at this
    split at this
    · simpa using this
    · cases this
theorem IsB.val {w : World} {v : Value} {G : Option Nat} {xs : Bytes} (h : IsB w v G xs) : ∃ A c, v = .slice A xs.length c ∧ RdB w A xs.length xs ∧ (A = none → xs.length = 0 ∧ c = 0) ∧ xs.length ≤ c ∧ c ≤ maxLen := by
  obtain ⟨A, cap, e, h1, h2, h3, h4, h5⟩ := h
  refine ⟨A, cap, e, ⟨rfl, ?_⟩, h1, h2, h3⟩
  by_cases hne : xs = []
  · subst hne; exact .inl rfl
  · obtain ⟨b, o, c, t, fz, e1, e2, e3, e4⟩ := h5 hne
    refine .inr ⟨b, o, c, t, fz, e1, e3, fun j u hj => ?_⟩
    simp only [bvs, List.getElem?_map, Option.map_eq_some_iff] at hj
    obtain ⟨x, hx, rfl⟩ := hj
    exact e4 j x hx
theorem IsB.le {w : World} {v : Value} {G : Option Nat} {xs : Bytes} (h : IsB w v G xs) : xs.length ≤ 9223372036854775807 := by
  obtain ⟨A, c, _, _, _, h1, h2⟩ := h.val
  simp only [maxLen] at h2
  omega
/-- A part: 'v[lo:hi]'. -/
theorem IsB.part {w : World} {A : Option Addr} {n c : Nat} {G : Option Nat} {xs : Bytes} (h : IsB w (.slice A n c) G xs) (lo hi : Nat) (h1 : lo ≤ hi) (h2 : hi ≤ n) :
    IsB w (.slice (if c = lo then A else A.map (·.add (lo * 1))) (hi - lo) (c - lo)) G ((xs.take hi).drop lo) := by
  obtain ⟨A', cap, e, g1, g2, g3, g4, g5⟩ := h
  cases e
  have hl : ((xs.take hi).drop lo).length = hi - lo := by simp; omega
  refine ⟨_, c - lo, by rw [hl], fun hn => ?_, by rw [hl]; omega, by simp only [maxLen] at *; omega, g4, fun hne => ?_⟩
  · have : A = none := by
      by_cases hc : c = lo
      · rwa [if_pos hc] at hn
      · rw [if_neg hc] at hn; simpa using hn
    have := g1 this
    rw [hl]; omega
  · have hne' : xs ≠ [] := fun h => by subst h; simp at hne
    have hlt : lo < hi := by
      rcases Nat.lt_or_ge lo hi with h | h
      · exact h
      · exact absurd (List.eq_nil_of_length_eq_zero (by rw [hl]; omega)) hne
    obtain ⟨b, o, cs, t, fz, e1, e2, e3, e4⟩ := g5 hne'
    subst e1
    rw [if_neg (by omega)]
    refine ⟨b, o + lo, cs, t, fz, by simp [add_mk], e2, e3, fun j x hj => ?_⟩
    rw [List.getElem?_drop, List.getElem?_take] at hj
    split at hj
    · rw [Nat.add_assoc]; exact e4 _ _ hj
    · cases hj
theorem IsB.upto {w : World} {A : Option Addr} {n c : Nat} {G : Option Nat} {xs : Bytes} (h : IsB w (.slice A n c) G xs) (hi : Nat) (h2 : hi ≤ n) : IsB w (.slice A hi c) G (xs.take hi) := by
  obtain ⟨A', cap, e, g1, g2, g3, g4, g5⟩ := h
  cases e
  have hl : (xs.take hi).length = hi := by simp; omega
  refine ⟨A, c, by rw [hl], fun hn => by have := g1 hn; rw [hl]; omega, by rw [hl]; omega, g3, g4, fun hne => ?_⟩
  obtain ⟨b, o, cs, t, fz, e1, e2, e3, e4⟩ := g5 (fun h => by subst h; simp at hne)
  refine ⟨b, o, cs, t, fz, e1, e2, e3, fun j x hj => ?_⟩
  rw [List.getElem?_take] at hj
  split at hj
  · exact e4 _ _ hj
  · cases hj
theorem IsB.from {w : World} {A : Option Addr} {n c : Nat} {G : Option Nat} {xs : Bytes} (h : IsB w (.slice A n c) G xs) (lo : Nat) (h2 : lo ≤ n) :
    IsB w (.slice (if c = lo then A else A.map (·.add (lo * 1))) (n - lo) (c - lo)) G (xs.drop lo) := by
  have hn : xs.length = n := by
    obtain ⟨A', c', e, _⟩ := h.val
    cases e; rfl
  have := h.part lo n h2 (Nat.le_refl _)
  rwa [List.take_of_length_le (by omega)] at this
/-- A byte of it. -/
theorem IsB.at {w : World} {A : Option Addr} {n c : Nat} {G : Option Nat} {xs : Bytes} (h : IsB w (.slice A n c) G xs) (i : Nat) (hi : i < n) : ∃ a x, A = some a ∧ xs[i]? = some x ∧ w.cell? (a.add (i * 1)) = some (bv x) := by
  obtain ⟨A', cap, e, g1, g2, g3, g4, g5⟩ := h
  cases e
  obtain ⟨b, o, cs, t, fz, e1, e2, e3, e4⟩ := g5 (fun h => by subst h; simp at hi)
  refine ⟨_, xs[i], e1, List.getElem?_eq_getElem hi, ?_⟩
  rw [add_mk, Nat.mul_one]
  exact cell_of e3 (e4 i _ (List.getElem?_eq_getElem hi))

/-- slices.Clone of bytes. -/
theorem f113 (w : World) (v : Value) (G : Option Nat) (xs : Bytes) (h : IsB w v G xs) (hl : xs.length ≤ 100000000000) :
    Meets Try.prog 113 [v] w fun v' w' => ∃ G', IsB w' v' G' xs ∧ Fr None w w' ∧ (∀ b, G' = some b → w.heap.size ≤ b) ∧ OwnB w' 5 v' xs ∧ v'.ownBlock = G' := by
  obtain ⟨A, cap, rfl, hA, h1, h2, _⟩ := h.ex
  cases A with
  | none =>
    obtain ⟨hx0, rfl⟩ := hA rfl
    have : xs = [] := List.eq_nil_of_length_eq_zero hx0
    subst this
    refine spec_of Try.func113 Try.ntmps113 Try.results113 rfl (by kernel_rfl) rfl ?_
    refine ⟨fun _ => ?_, fun e => (by cases e)⟩
    exact ⟨none, .nil w, Fr.refl _ _, by simp, Own.nil w 5 1, rfl⟩
  | some a0 =>
    refine spec_of Try.func113 Try.ntmps113 Try.results113 rfl (by kernel_rfl) rfl ?_
    refine ⟨fun e => (by cases e), fun _ => ?_⟩
    intro b2 w2 hb2 hw2
    obtain ⟨g1, g2, g3, g4⟩ := new_of hb2 hw2
    have ho : OwnB w2 5 (.slice (some ⟨b2, 0, none⟩) 0 0) [] := ⟨rfl, .inr ⟨b2, 0, #[], rfl, Nat.zero_le _, g1, Nat.le_refl _, by simp [maxLen], rfl, rfl⟩⟩
    have hx := h.fr0 g2
    obtain ⟨A, c2, e, h4, h5, h6, h7⟩ := hx.val
    cases e
    obtain ⟨A', c', w3, r1, r2, r3, r4⟩ := ap_bytes byteTy ho (c := cap) h5 h4 (by simp; omega) 22
    refine ⟨_, w3, r1, ?_⟩
    have r5 : ∀ b', (Value.slice A' (([] : Bytes).length + xs.length) c').ownBlock = some b' → w.heap.size ≤ b' := by
      intro b' hb'
      rcases r4 with r4 | r4
      · rw [r4] at hb'; have e : b2 = b' := Option.some.inj hb'; omega
      · rw [r4] at hb'; have e : w2.heap.size = b' := Option.some.inj hb'; omega
    exact ⟨_, .of r2, (Fr.mono (D := fun k => k = b2) (g2.trans r3 (fun _ _ h => h.elim) fun i hi e => by cases e; rfl) fun k hk e => by omega), r5, r2, rfl⟩

/-- A reader at block a: bytes in block G, an error. -/
structure IsR (w : World) (a : Nat) (G : Option Nat) (xs : Bytes) (e : Nat) : Prop where
  ex : ∃ sl, w.heap[a]? = some (.cells #[sl, vi e] 238 (0, 0)) ∧ IsB w sl G xs ∧ ∀ b, G = some b → b ≠ a

theorem IsR.fr {D : Nat → Prop} {w w' : World} {a : Nat} {G : Option Nat} {xs : Bytes} {e : Nat} (h : IsR w a G xs e) (hf : Fr D w w') (ha : ¬ D a) (hd : ∀ b, G = some b → b < w.heap.size → ¬ D b) : IsR w' a G xs e := by
  obtain ⟨sl, h1, h2, h3⟩ := h
  exact ⟨sl, hf.blk h1 ha, h2.fr hf hd, h3⟩
theorem IsR.lt {w : World} {a : Nat} {G : Option Nat} {xs : Bytes} {e : Nat} (h : IsR w a G xs e) : a < w.heap.size := by
  obtain ⟨sl, h1, h2, h3⟩ := h
  exact lt_of_blk h1
theorem IsR.ltG {w : World} {a : Nat} {G : Option Nat} {xs : Bytes} {e : Nat} (h : IsR w a G xs e) : ∀ b, G = some b → b < w.heap.size := by
  obtain ⟨sl, h1, h2, h3⟩ := h
  exact h2.lt
theorem IsR.ne {w : World} {a : Nat} {G : Option Nat} {xs : Bytes} {e : Nat} (h : IsR w a G xs e) : ∀ b, G = some b → b ≠ a := by
  obtain ⟨sl, h1, h2, h3⟩ := h
  exact h3

theorem f88 (w : World) (v : Value) (G : Option Nat) (xs : Bytes) (h : IsB w v G xs) (hl : xs.length ≤ 100000000000) :
    Meets Try.prog 88 [v] w fun v' w' => ∃ a G', v' = ptr a ∧ IsR w' a G' xs 0 ∧ Fr None w w' ∧ w.heap.size ≤ a ∧ ∀ b, G' = some b → w.heap.size ≤ b := by
  refine spec_of Try.func88 Try.ntmps88 Try.results88 rfl (by kernel_rfl) rfl ?_
  refine (f113 w v G xs h hl).mono ?_
  rintro v1 w1 ⟨G', h1, h2, h3, h4, h5⟩
  obtain ⟨A, c, rfl, _⟩ := h1.val
  intro b w2 hb hw
  obtain ⟨g1, g2, g3, g4⟩ := new_of hb hw
  have := h2.size
  exact ⟨b, G', rfl, ⟨_, g1, h1.fr0 g2, fun b' hb' => by have := h1.lt b' hb'; omega⟩, h2.more g2, by omega, h3⟩

theorem f92 (w : World) (a : Nat) (G : Option Nat) (xs : Bytes) (e : Nat) (h : IsR w a G xs e) :
    Meets Try.prog 92 [ptr a] w fun v' w' => v' = vi e ∧ w' = w := by
  obtain ⟨sl, hb, hx, hne'⟩ := h
  refine spec_of Try.func92 Try.ntmps92 Try.results92 rfl (by kernel_rfl) rfl ?_
  refine ⟨fun e => (by cases e), fun _ => ?_⟩
  refine ⟨_, rfl, _, rfl, _, _, ⟨rfl, cell_of hb rfl⟩, ?_⟩
  exact ⟨rfl, rfl⟩

theorem f93 (w : World) (a : Nat) (G : Option Nat) (xs : Bytes) (e : Nat) (h : IsR w a G xs e) :
    Meets Try.prog 93 [ptr a] w fun v' w' => v' = vi (if e = 0 then xs.length else 0 : Nat) ∧ w' = w := by
  refine spec_of Try.func93 Try.ntmps93 Try.results93 rfl (by kernel_rfl) rfl ?_
  refine (f92 w a G xs e h).mono ?_
  rintro _ w ⟨rfl, rfl⟩
  obtain ⟨sl, hb, hx, hne'⟩ := h
  obtain ⟨A, c, rfl, _⟩ := hx.val
  refine ⟨fun h => ?_, fun h => ?_⟩
  · have : e ≠ 0 := by simp at h; omega
    rw [if_neg this]
    exact ⟨rfl, rfl⟩
  · have : e = 0 := by simp at h; omega
    rw [if_pos this]
    refine ⟨_, rfl, _, rfl, _, _, ⟨rfl, cell_of hb rfl⟩, ?_⟩
    exact ⟨rfl, rfl⟩

theorem f137 (w : World) (a : Nat) (G : Option Nat) (xs : Bytes) (e k : Nat) (h : IsR w a G xs e) :
    Meets Try.prog 137 [ptr a, vi k] w fun v' w' => IsR w' a G xs (if e = 0 then k else e) ∧ Fr (· = a) w w' := by
  refine spec_of Try.func137 Try.ntmps137 Try.results137 rfl (by kernel_rfl) rfl ?_
  refine (f92 w a G xs e h).mono ?_
  rintro _ w ⟨rfl, rfl⟩
  have hne := h.ne
  obtain ⟨sl, hb, hx, hne'⟩ := h
  refine ⟨fun h => ?_, fun h => ?_⟩
  · have : e = 0 := by simp at h; omega
    rw [if_pos this]
    refine ⟨_, rfl, _, rfl, ?_⟩
    refine ⟨st_ok (i := 1) hb (by simp) rfl, fun w4 hw4 => ?_⟩
    obtain ⟨k1, k2, k3⟩ := st_fx (i := 1) hb hw4
    exact ⟨⟨_, k1, hx.fr k2 fun b hb _ => hne b hb, hne⟩, k2⟩
  · have : e ≠ 0 := by simp at h; omega
    rw [if_neg this]
    exact ⟨⟨sl, hb, hx, hne⟩, Fr.refl _ _⟩

theorem f157 (w : World) (a : Nat) (G : Option Nat) (xs : Bytes) (e n : Nat) (h : IsR w a G xs e) (hl : xs.length ≤ 100000000000) :
    Meets Try.prog 157 [ptr a, vi n] w fun v' w' => Fr (· = a) w w' ∧ ∃ G', (∀ b, G' = some b → w.heap.size ≤ b) ∧
      (if e = 0 ∧ n ≤ xs.length then IsB w' v' G' (xs.take n) ∧ IsR w' a G (xs.drop n) 0 else IsB w' v' G' [] ∧ IsR w' a G xs (if e = 0 then 2 else e)) := by
  refine spec_of Try.func157 Try.ntmps157 Try.results157 rfl (by kernel_rfl) rfl ?_
  refine (f92 w a G xs e h).mono ?_
  rintro _ w ⟨rfl, rfl⟩
  have hne := h.ne
  refine ⟨fun h' => ?_, fun h' => ?_⟩
  · have : e ≠ 0 := by simp at h'; omega
    exact ⟨Fr.refl _ _, none, by simp, by rw [if_neg (by omega), if_neg this]; exact ⟨.nil _, h⟩⟩
  · have : e = 0 := by simp at h'; omega
    subst this
    obtain ⟨sl, hb, hx, hne'⟩ := id h
    obtain ⟨A, c, rfl, _⟩ := hx.val
    refine ⟨_, rfl, _, rfl, _, _, ⟨rfl, cell_of hb rfl⟩, ?_⟩
    refine ⟨fun h1 => ?_, fun h1 => ?_⟩
    · have hn : xs.length < n := by simp at h1; omega
      refine (f137 w a G xs 0 2 h).mono ?_
      rintro _ w1 ⟨h2, h3⟩
      exact ⟨h3, none, by simp, by rw [if_neg (by omega)]; exact ⟨.nil _, h2⟩⟩
    · have hn : n ≤ xs.length := by simp at h1; omega
      refine ⟨_, rfl, _, rfl, _, _, ⟨rfl, cell_of hb rfl⟩, ?_⟩
      refine ⟨⟨Int.natCast_nonneg _, by omega⟩, ?_⟩
      refine (f113 w _ G _ (hx.upto n hn) (by simp; omega)).mono ?_
      rintro v1 w1 ⟨G', h2, h3, h4, h5, h6⟩
      have hb1 := h3.blk hb (no_none _)
      have hx1 := hx.fr0 h3
      obtain ⟨A1, c1, rfl, _⟩ := h2.val
      refine ⟨_, rfl, _, rfl, _, _, ⟨rfl, cell_of hb1 rfl⟩, ?_⟩
      refine ⟨⟨Int.natCast_nonneg _, by omega⟩, ?_⟩
      rintro A2 rfl
      refine ⟨_, rfl, _, rfl, ?_⟩
      refine ⟨st_ok (i := 0) hb1 (by simp) rfl, fun w4 hw4 => ?_⟩
      obtain ⟨k1, k2, k3⟩ := st_fx (i := 0) hb1 hw4
      have hlt := lt_of_blk hb
      refine ⟨(h3.mono fun _ _ h => h.elim).andThen k2 fun i hi => .inl hi, G', h4, ?_⟩
      rw [if_pos ⟨rfl, hn⟩]
      refine ⟨h2.fr k2 fun b hb _ e => ?_, ⟨_, k1, ?_, hne⟩⟩
      · have := h4 b hb; omega
      · exact (hx1.from n hn).fr k2 fun b hb _ => hne b hb

/-- The number that bytes are, the greatest first. -/
def beN (xs : Bytes) : Nat := xs.foldl (fun n c => n * 256 + c.toNat) 0

def rFix (s : Bytes × Nat) (size : Nat) : Nat × (Bytes × Nat) :=
  if s.2 ≠ 0 then (0, s) else if s.1.length < size ∨ (size = 8 ∧ 127 < (s.1.getD 0 0).toNat) then (0, (s.1, 2)) else (beN (s.1.take size), (s.1.drop size, 0))

theorem beN_snoc (xs : Bytes) (c : UInt8) : beN (xs ++ [c]) = beN xs * 256 + c.toNat := by simp [beN]
theorem beN_lt (xs : Bytes) : beN xs < 256 ^ xs.length := by
  refine snoc_ind (P := fun xs => beN xs < 256 ^ xs.length) (by simp [beN]) (fun xs c ih => ?_) xs
  · rw [beN_snoc, List.length_append, List.length_singleton, Nat.pow_succ]
    have := c.toNat_lt
    omega
theorem beN_cons (c : UInt8) (xs : Bytes) : beN (c :: xs) = c.toNat * 256 ^ xs.length + beN xs := by
  refine snoc_ind (P := fun xs => beN (c :: xs) = c.toNat * 256 ^ xs.length + beN xs) (by simp [beN]) (fun xs d ih => ?_) xs
  · rw [← List.cons_append, beN_snoc, ih, beN_snoc, List.length_append, List.length_singleton, Nat.pow_succ, Nat.add_mul, Nat.mul_assoc, Nat.add_assoc]
theorem or_byte (a : Nat) (c : UInt8) : (a <<< 8) ||| c.toNat = a * 256 + c.toNat := by
  have := c.toNat_lt
  rw [← Nat.shiftLeft_add_eq_or_of_lt (by omega), Nat.shiftLeft_eq]

theorem f116 (w : World) (a : Nat) (G : Option Nat) (xs : Bytes) (e size : Nat) (h : IsR w a G xs e) (h1 : 1 ≤ size) (h8 : size ≤ 8) (hl : xs.length ≤ 100000000000) :
    Meets Try.prog 116 [ptr a, vi size] w fun v' w' => v' = vi (rFix (xs, e) size).1 ∧ IsR w' a G (rFix (xs, e) size).2.1 (rFix (xs, e) size).2.2 ∧ Fr (· = a) w w' := by
  refine spec_of Try.func116 Try.ntmps116 Try.results116 rfl (by kernel_rfl) rfl ?_
  refine (f92 w a G xs e h).mono ?_
  rintro _ w ⟨rfl, rfl⟩
  refine ⟨fun h' => ?_, fun h' => ?_⟩
  · have : e ≠ 0 := by simp at h'; omega
    have hr : rFix (xs, e) size = (0, (xs, e)) := by simp [rFix, this]
    rw [hr]
    exact ⟨rfl, h, Fr.refl _ _⟩
  have : e = 0 := by simp at h'; omega
  subst this
  obtain ⟨sl, hb, hx, hne'⟩ := id h
  obtain ⟨A, c, rfl, _⟩ := hx.val
  refine ⟨_, fun _ => rfl, _, fun _ => rfl, _, _, fun _ => ⟨rfl, cell_of hb rfl⟩, ?_⟩
  have hat : xs.length ≥ size → ∃ a, A = some a ∧ w.cell? (a.add (0 * 1)) = some (bv (xs.getD 0 0)) := fun hge => by
    obtain ⟨a, x, e1, e2, e3⟩ := hx.at 0 (by omega)
    refine ⟨a, e1, ?_⟩
    rw [e3, List.getD_eq_getElem?_getD, e2]; rfl
  have hge : decide ((xs.length : Int) < size) = false → xs.length ≥ size := fun h => by simp at h; omega
  refine ⟨_, fun _ _ => rfl, _, fun _ _ => rfl, _, _, fun _ _ => ⟨rfl, cell_of hb rfl⟩, ?_⟩
  refine ⟨A.getD ⟨0, 0, none⟩, fun hc _ => ?_, _, bv (xs.getD 0 0), fun hc _ => ⟨rfl, ?_⟩, ?_⟩
  · simp only [Bool.or_eq_false_iff] at hc
    obtain ⟨a', e1, e2⟩ := hat (hge hc.2)
    subst e1
    have := hge hc.2
    exact ⟨rfl, by omega, by omega⟩
  · simp only [Bool.or_eq_false_iff] at hc
    obtain ⟨a', e1, e2⟩ := hat (hge hc.2)
    subst e1
    exact e2
  refine ⟨fun hc => ?_, fun hc => ?_⟩
  · have hr : rFix (xs, 0) size = (0, (xs, 2)) := by
      unfold rFix
      rw [if_neg (by simp), if_pos]
      simp at hc
      rcases hc with hc | hc
      · exact .inl (show xs.length < size by omega)
      · exact .inr ⟨by omega, by have := hc.2; simp [List.getD_eq_getElem?_getD] at *; omega⟩
    rw [hr]
    refine (f137 w a G xs 0 2 h).mono ?_
    rintro _ w1 ⟨h2, h3⟩
    exact ⟨rfl, h2, h3⟩
  · have hle : size ≤ xs.length ∧ ¬ (size = 8 ∧ 127 < (xs.getD 0 0).toNat) := by
      simp at hc
      refine ⟨by omega, fun h => ?_⟩
      have := hc.2 (by omega)
      simp [List.getD_eq_getElem?_getD] at *
      omega
    have hr : rFix (xs, 0) size = (beN (xs.take size), (xs.drop size, 0)) := by
      unfold rFix
      rw [if_neg (by simp), if_neg]
      rintro (h | h)
      · simp at h; omega
      · exact hle.2 h
    rw [hr]
    refine (f157 w a G xs 0 size h hl).mono ?_
    rintro v1 w1 ⟨h2, G', h3, h4⟩
    rw [if_pos ⟨rfl, hle.1⟩] at h4
    obtain ⟨A1, c1, rfl, _⟩ := h4.1.val
    have hlen : (xs.take size).length = size := by simp; omega
    generalize hys : xs.take size = ys at *
    have hby : ∀ j, j < size → beN (ys.take (j + 1)) < 2 ^ 63 := by
      intro j hj
      have hb0 := beN_lt (ys.take (j + 1))
      have hl0 : (ys.take (j + 1)).length = j + 1 := by simp; omega
      rw [hl0] at hb0
      by_cases h7 : j < 7
      · have : 256 ^ (j + 1) ≤ 256 ^ 7 := Nat.pow_le_pow_right (by decide) (by omega)
        omega
      · have hj7 : j = 7 := by omega
        subst hj7
        have hs8 : size = 8 := by omega
        subst hs8
        rw [List.take_of_length_le (by omega)]
        match ys, hlen, hys with
        | c0 :: zs, hlen, hys =>
          rw [beN_cons]
          have hz := beN_lt zs
          have hzl : zs.length = 7 := by simpa using hlen
          rw [hzl] at hz ⊢
          have : xs.getD 0 0 = c0 := by
            match xs, hys with
            | x :: xs', hys => simp at hys; simp [hys.1]
          have h127 : ¬ 127 < c0.toNat := fun h => hle.2 ⟨rfl, by rw [this]; exact h⟩
          have : c0.toNat * 256 ^ 7 ≤ 127 * 256 ^ 7 := Nat.mul_le_mul_right _ (by omega)
          omega
    refine ⟨[4, 44], by kernel_rfl, fun vs w2 => w2 = w1 ∧ ∃ j, j ≤ size ∧ vs = [vi (beN (ys.take j)), vi j], fun vs _ => match vs with | [_, .int _ s] => (size - s).toNat | _ => 0, ?_, ?_⟩
    · exact ⟨rfl, 0, by omega, rfl⟩
    · rintro _ w2 ⟨rfl, j, hj, rfl⟩
      refine ⟨rfl, fun hlt => ?_, fun hlt => ?_⟩
      · have hj' : j < ys.length := by simp at hlt; omega
        obtain ⟨a', x, e1, e2, e3⟩ := h4.1.at j hj'
        subst e1
        refine ⟨a', ⟨rfl, Int.natCast_nonneg _, by omega⟩, _, _, ⟨rfl, e3⟩, ?_⟩
        refine ⟨by show (0 : Int) ≤ 8; decide, ?_⟩
        have hb := hby j (by omega)
        have ht : ys.take (j + 1) = ys.take j ++ [x] := by rw [List.take_add_one, e2]; rfl
        rw [ht, beN_snoc] at hb
        have hx' := x.toNat_lt
        have key : (.int .i64 (bitI .or .i64 (shlI .i64 (beN (ys.take j) : Int) 8) (IntKind.i64.wrap (x.toNat : Int))) : Value) = vi (beN (ys.take (j + 1))) := by
          have : shlI .i64 (beN (ys.take j) : Int) 8 = ((beN (ys.take j) <<< 8 : Nat) : Int) := by
            rw [show (8 : Int) = ((8 : Nat) : Int) from rfl, shl_nat _ _ _ (by simp [IntKind.bits]), Nat.shiftLeft_eq]
            exact w64n _ (by omega)
          rw [this, w64n _ (by omega), or64 _ _ (by rw [Nat.shiftLeft_eq]; omega) (by omega), or_byte, ht, beN_snoc]
        refine ⟨⟨rfl, j + 1, by omega, ?_⟩, ?_⟩
        · show [_, vi (IntKind.i64.wrap _)] = _
          rw [key, w64 (by omega)]; rfl
        · show ((size : Int) - IntKind.i64.wrap (_ : Int)).toNat < ((size : Int) - j).toNat
          rw [w64 (by omega)]; omega
      · have hj' : j = size := by simp at hlt; omega
        subst hj'
        rw [List.take_of_length_le (by omega)]
        exact ⟨rfl, h4.2, h2⟩

end Go.Proofs.Yticgmchbihakkaa

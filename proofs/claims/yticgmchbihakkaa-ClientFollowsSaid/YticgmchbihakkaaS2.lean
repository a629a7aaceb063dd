/- Separation, part 2: slices of whatever elements, read and owned; append; the record of a range over a function. -/
import Derived.Test.YticgmchbihakkaaS1
set_option linter.unusedVariables false
set_option linter.unusedSimpArgs false
namespace Go.Den
open Go

/-- How elements stand in cells. -/
structure Rp (α : Type) where
  ty : Nat
  sz : Nat
  ok : World → (Nat → Prop) → List Value → α → Prop
  loc : ∀ {w w' I cs a}, ok w I cs a → Agr I w w' → ok w' I cs a
  mono : ∀ {w I I' cs a}, ok w I cs a → (∀ b, b < w.heap.size → I b → I' b) → ok w I' cs a
  len : ∀ {w I cs a}, ok w I cs a → cs.length = sz
  one : ∀ {w I cs a}, ok w I cs a → ∀ u ∈ cs, u.oneCell' = true
  pos : 0 < sz

variable {α : Type}

/-- An element. -/
def Rp.el (R : Rp α) (cs : List Value) (a : α) : PP := ⟨fun w I => R.ok w I cs a, fun h k => R.loc h k, fun h k => R.mono h k⟩

def Rp.cells (R : Rp α) (w : World) (I : Nat → Prop) : List α → List Value → Prop
  | [], l => l = []
  | a :: as, l => ∃ cs l', l = cs ++ l' ∧ R.ok w I cs a ∧ R.cells w I as l'

section
variable {R : Rp α} {w w' : World} {I I' : Nat → Prop}
theorem Rp.cells_loc (k : Agr I w w') : ∀ {xs : List α} {l : List Value}, R.cells w I xs l → R.cells w' I xs l
  | [], _, h => h
  | a :: as, _, ⟨cs, l', h1, h2, h3⟩ => ⟨cs, l', h1, R.loc h2 k, Rp.cells_loc k h3⟩
theorem Rp.cells_mono (k : ∀ b, b < w.heap.size → I b → I' b) : ∀ {xs : List α} {l : List Value}, R.cells w I xs l → R.cells w I' xs l
  | [], _, h => h
  | a :: as, _, ⟨cs, l', h1, h2, h3⟩ => ⟨cs, l', h1, R.mono h2 k, Rp.cells_mono k h3⟩
theorem Rp.cells_len : ∀ {xs : List α} {l : List Value}, R.cells w I xs l → l.length = xs.length * R.sz
  | [], _, h => by cases h; simp
  | a :: as, _, ⟨cs, l', h1, h2, h3⟩ => by
    subst h1
    rw [List.length_append, R.len h2, Rp.cells_len h3, List.length_cons, Nat.add_mul]; omega
theorem Rp.cells_get : ∀ {xs : List α} {l : List Value} (j : Nat) {x : α}, R.cells w I xs l → xs[j]? = some x → ∃ cs, R.ok w I cs x ∧ ∀ i u, cs[i]? = some u → l[j * R.sz + i]? = some u
  | [], _, j, x, h, hj => by simp at hj
  | a :: as, _, 0, x, ⟨cs, l', h1, h2, h3⟩, hj => by
    simp at hj
    subst hj; subst h1
    refine ⟨cs, h2, fun i u hu => ?_⟩
    rw [Nat.zero_mul, Nat.zero_add, List.getElem?_append_left (List.getElem?_eq_some_iff.1 hu).1]
    exact hu
  | a :: as, _, j + 1, x, ⟨cs, l', h1, h2, h3⟩, hj => by
    obtain ⟨cs', k1, k2⟩ := Rp.cells_get j h3 (by simpa using hj)
    subst h1
    refine ⟨cs', k1, fun i u hu => ?_⟩
    have := k2 i u hu
    have hm : (j + 1) * R.sz = j * R.sz + R.sz := by rw [Nat.add_mul, Nat.one_mul]
    rw [List.getElem?_append_right (by rw [R.len h2]; omega), R.len h2]
    rwa [show (j + 1) * R.sz + i - R.sz = j * R.sz + i by omega]
theorem Rp.cells_snoc {x : α} {cs : List Value} (hx : R.ok w I cs x) : ∀ {xs : List α} {l : List Value}, R.cells w I xs l → R.cells w I (xs ++ [x]) (l ++ cs)
  | [], _, h => by cases h; exact ⟨cs, [], by simp, hx, rfl⟩
  | a :: as, _, ⟨cs0, l', h1, h2, h3⟩ => by
    subst h1
    exact ⟨cs0, l' ++ cs, by simp, h2, Rp.cells_snoc hx h3⟩
theorem Rp.cells_append : ∀ {xs ys : List α} {l m : List Value}, R.cells w I xs l → R.cells w I ys m → R.cells w I (xs ++ ys) (l ++ m)
  | [], _, _, _, h, k => by cases h; exact k
  | a :: as, _, _, _, ⟨cs0, l', h1, h2, h3⟩, k => by
    subst h1
    exact ⟨cs0, _, by simp, h2, Rp.cells_append h3 k⟩
theorem Rp.cells_one : ∀ {xs : List α} {l : List Value}, R.cells w I xs l → ∀ u ∈ l, u.oneCell' = true
  | [], _, h => by cases h; simp
  | a :: as, _, ⟨cs0, l', h1, h2, h3⟩ => by
    subst h1
    intro u hu
    rcases List.mem_append.1 hu with hu | hu
    · exact R.one h2 u hu
    · exact Rp.cells_one h3 u hu
theorem Rp.cells_split : ∀ {xs : List α} {l : List Value} (k : Nat), R.cells w I xs l → R.cells w I (xs.take k) (l.take (k * R.sz)) ∧ R.cells w I (xs.drop k) (l.drop (k * R.sz))
  | [], _, k, h => by cases h; simp [Rp.cells]
  | a :: as, _, 0, h => by simp; exact ⟨rfl, h⟩
  | a :: as, _, k + 1, ⟨cs, l', h1, h2, h3⟩ => by
    subst h1
    obtain ⟨j1, j2⟩ := Rp.cells_split k h3
    have hl := R.len h2
    have hm : (k + 1) * R.sz = cs.length + k * R.sz := by rw [Nat.add_mul, Nat.one_mul]; omega
    rw [List.take_succ_cons, List.drop_succ_cons, hm, List.take_length_add_append, List.drop_length_add_append]
    exact ⟨⟨cs, _, rfl, h2, j1⟩, j2⟩
end

/-- A slice that is read. -/
def Rp.slOk (R : Rp α) (v : Value) (xs : List α) (w : World) (I : Nat → Prop) : Prop :=
  ∃ A cap, v = .slice A xs.length cap ∧ (A = none → xs.length = 0 ∧ cap = 0) ∧ xs.length ≤ cap ∧ cap ≤ maxLen ∧ (xs ≠ [] → ∃ b o c t fz cells, A = some ⟨b, o, none⟩ ∧ I b ∧ w.heap[b]? = some (.cells c t fz) ∧ R.cells w I xs cells ∧ ∀ j u, cells[j]? = some u → c[o + j]? = some u)
def Rp.sl (R : Rp α) (v : Value) (xs : List α) : PP := ⟨R.slOk v xs,
  fun ⟨A, cap, e, h1, h2, h3, h4⟩ k => ⟨A, cap, e, h1, h2, h3, fun hne => let ⟨b, o, c, t, fz, cells, e1, e2, e3, e4, e5⟩ := h4 hne; ⟨b, o, c, t, fz, cells, e1, e2, k.blk e3 e2, Rp.cells_loc k e4, e5⟩⟩,
  fun ⟨A, cap, e, h1, h2, h3, h4⟩ k => ⟨A, cap, e, h1, h2, h3, fun hne => let ⟨b, o, c, t, fz, cells, e1, e2, e3, e4, e5⟩ := h4 hne; ⟨b, o, c, t, fz, cells, e1, k b (lt_of_blk e3) e2, e3, Rp.cells_mono k e4, e5⟩⟩⟩
/-- A slice that is owned: it may be appended to. -/
def Rp.ownOk (R : Rp α) (v : Value) (xs : List α) (w : World) (I D : Nat → Prop) : Prop := ∃ cells, Own w R.ty R.sz v xs.length cells ∧ R.cells w I xs cells ∧ ∀ b, v.ownBlock = some b → D b
def Rp.own (R : Rp α) (v : Value) (xs : List α) : HP := ⟨R.ownOk v xs,
  fun ⟨cells, h1, h2, h3⟩ k1 k2 => ⟨cells, h1.fr (k2.fr (D := fun b => ¬ _) fun _ _ h => h) fun b hb _ h => h (h3 b hb), Rp.cells_loc k1 h2, h3⟩,
  fun ⟨cells, h1, h2, h3⟩ k1 k2 => ⟨cells, h1, Rp.cells_mono k1 h2, fun b hb => k2 b (h1.lt b hb) (h3 b hb)⟩⟩

section
variable {R : Rp α} {w : World} {I D : Nat → Prop} {v : Value} {xs : List α}

theorem Rp.slOk.nil : R.slOk (.slice none 0 0) [] w I := ⟨none, 0, rfl, fun _ => ⟨rfl, rfl⟩, Nat.le_refl _, by simp [maxLen], fun h => absurd rfl h⟩
theorem Rp.slOk.mk' {b o cap : Nat} {c : Array Value} {t : TypeId} {fz : Nat × Nat} {cells : List Value} (hI : I b) (hb : w.heap[b]? = some (.cells c t fz)) (h1 : xs.length ≤ cap) (h2 : cap ≤ maxLen) (h3 : R.cells w I xs cells) (h4 : ∀ j u, cells[j]? = some u → c[o + j]? = some u) : R.slOk (.slice (some ⟨b, o, none⟩) xs.length cap) xs w I :=
  ⟨_, cap, rfl, by simp, h1, h2, fun _ => ⟨b, o, c, t, fz, cells, rfl, hI, hb, h3, h4⟩⟩
theorem Rp.slOk.val (h : R.slOk v xs w I) : ∃ A c, v = .slice A xs.length c ∧ xs.length ≤ c ∧ c ≤ maxLen ∧ (A = none → xs.length = 0 ∧ c = 0) := by
  obtain ⟨A, cap, e, h1, h2, h3, h4⟩ := h
  exact ⟨A, cap, e, h2, h3, h1⟩
theorem Rp.slOk.at {A : Option Addr} {n c : Nat} (h : R.slOk (.slice A n c) xs w I) (i : Nat) (hi : i < n) : ∃ a x cs, A = some a ∧ xs[i]? = some x ∧ R.ok w I cs x ∧ cellsAt w (a.add (i * R.sz)) 0 cs := by
  obtain ⟨A', cap, e, h1, h2, h3, h4⟩ := h
  cases e
  obtain ⟨b, o, c, t, fz, cells, e1, e2, e3, e4, e5⟩ := h4 (fun h => by subst h; simp at hi)
  obtain ⟨cs, k1, k2⟩ := Rp.cells_get i e4 (List.getElem?_eq_getElem hi)
  refine ⟨_, _, cs, e1, List.getElem?_eq_getElem hi, k1, cellsAt_of fun j u hj => ?_⟩
  simp only [add_mk, Nat.zero_add]
  have := e5 _ _ (k2 j u hj)
  exact cell_of e3 (by rwa [show o + i * R.sz + j = o + (i * R.sz + j) by omega])
/-- xs[:k] -/
theorem Rp.slOk.upto {A : Option Addr} {n c : Nat} (h : R.slOk (.slice A n c) xs w I) (k c' : Nat) (hk : k ≤ n) (hc : k ≤ c') (hc' : c' ≤ c) (hA : A = none → c' = 0) : R.slOk (.slice A k c') (xs.take k) w I := by
  obtain ⟨A', cap, e, h1, h2, h3, h4⟩ := h
  cases e
  have hl : (xs.take k).length = k := by simp; omega
  refine ⟨A, c', by rw [hl], fun hn => ⟨by have := h1 hn; omega, hA hn⟩, by omega, by omega, fun hne => ?_⟩
  obtain ⟨b, o, cs, t, fz, cells, e1, e2, e3, e4, e5⟩ := h4 (fun h => by subst h; simp at hne)
  refine ⟨b, o, cs, t, fz, _, e1, e2, e3, (Rp.cells_split k e4).1, fun j u hj => e5 j u ?_⟩
  rw [List.getElem?_take] at hj
  split at hj
  · exact hj
  · cases hj
/-- xs[k:] -/
theorem Rp.slOk.from {A : Option Addr} {n c : Nat} (h : R.slOk (.slice A n c) xs w I) (k : Nat) (hk : k ≤ n) : R.slOk (.slice (if c = k then A else A.map (·.add (k * R.sz))) (n - k) (c - k)) (xs.drop k) w I := by
  obtain ⟨A', cap, e, h1, h2, h3, h4⟩ := h
  cases e
  have hl : (xs.drop k).length = xs.length - k := by simp
  refine ⟨_, c - k, by rw [hl], fun hn => ?_, by omega, by omega, fun hne => ?_⟩
  · have : A = none := by
      by_cases hc : c = k
      · rwa [if_pos hc] at hn
      · rw [if_neg hc] at hn; simpa using hn
    have := h1 this
    omega
  · have hlt : k < xs.length := by
      rcases Nat.lt_or_ge k xs.length with h | h
      · exact h
      · exact absurd (List.drop_of_length_le h) hne
    obtain ⟨b, o, cs, t, fz, cells, e1, e2, e3, e4, e5⟩ := h4 (fun h => by subst h; simp at hlt)
    subst e1
    rw [if_neg (by omega)]
    refine ⟨b, o + k * R.sz, cs, t, fz, _, by simp [add_mk], e2, e3, (Rp.cells_split k e4).2, fun j u hj => ?_⟩
    rw [List.getElem?_drop] at hj
    have := e5 _ u hj
    rwa [show o + k * R.sz + j = o + (k * R.sz + j) by omega]
theorem Rp.ownOk.nil : R.ownOk (.slice none 0 0) [] w I D := ⟨[], Own.nil _ _ _, rfl, fun b hb => by cases hb⟩
theorem Rp.ownOk.val (h : R.ownOk v xs w I D) : ∃ A c, v = .slice A xs.length c ∧ xs.length ≤ c ∧ c ≤ maxLen ∧ (A = none → xs.length = 0 ∧ c = 0) := by
  obtain ⟨cells, h1, _⟩ := h
  rcases h1.2 with ⟨rfl, h0⟩ | ⟨g, cap, cur, rfl, hb, hg, hnc, hcm, hcs, ht⟩
  · have : xs.length = 0 := h0
    exact ⟨none, 0, by rw [this], by omega, by simp [maxLen], by simp [this]⟩
  · exact ⟨_, cap, rfl, hnc, hcm, by simp⟩
theorem Rp.ownOk.sl (h : R.ownOk v xs w I D) : R.slOk v xs w fun b => I b ∨ D b := by
  obtain ⟨cells, h1, h2, h3⟩ := h
  rcases h1.2 with ⟨rfl, h0⟩ | ⟨g, cap, cur, rfl, hb, hg, hnc, hcm, hcs, ht⟩
  · have : xs = [] := List.eq_nil_of_length_eq_zero h0
    subst this
    exact .nil
  · refine .mk' (.inr (h3 g rfl)) hg hnc hcm (Rp.cells_mono (fun b _ h => .inl h) h2) fun j u hj => ?_
    rw [← ht, List.getElem?_take] at hj
    split at hj
    · simpa using hj
    · cases hj
end

section
variable {Γ : List PP} {L : List HP} {w : World} {R : Rp α} {P : Program} {t bytes : Nat} {z : Value}

theorem Sat.slVal (h : Sat Γ L w) {v : Value} {xs : List α} (hm : R.sl v xs ∈ Γ) : ∃ A c, v = .slice A xs.length c ∧ xs.length ≤ c ∧ c ≤ maxLen ∧ (A = none → xs.length = 0 ∧ c = 0) := by
  obtain ⟨I, _, hp⟩ := h.pers hm
  exact Rp.slOk.val hp
theorem Sat.ownVal (h : Sat Γ L w) {k : Nat} {v : Value} {xs : List α} (hk : L[k]? = some (R.own v xs)) : ∃ A c, v = .slice A xs.length c ∧ xs.length ≤ c ∧ c ≤ maxLen ∧ (A = none → xs.length = 0 ∧ c = 0) := by
  obtain ⟨I, E, _, _, _, hp, _⟩ := h.turn hk
  exact Rp.ownOk.val hp
/-- A slice's element, loaded. -/
theorem Sat.slAt (h : Sat Γ L w) {A : Option Addr} {n c : Nat} {xs : List α} (hm : R.sl (.slice A n c) xs ∈ Γ) (i : Nat) (hi : i < n) :
    ∃ a x cs, A = some a ∧ xs[i]? = some x ∧ cs.length = R.sz ∧ cellsAt w (a.add (i * R.sz)) 0 cs ∧ Sat (R.el cs x :: Γ) L w := by
  obtain ⟨ow, h1, h2, h3⟩ := h.ex
  obtain ⟨a, x, cs, e1, e2, e3, e4⟩ := Rp.slOk.at (h2 _ hm) i hi
  refine ⟨a, x, cs, e1, e2, R.len e3, e4, ow, h1, fun q hq => ?_, h3⟩
  rcases List.mem_cons.1 hq with rfl | hq
  · exact e3
  · exact h2 q hq
theorem Sat.ownAt (h : Sat Γ L w) {k : Nat} {A : Option Addr} {n c : Nat} {xs : List α} (hk : L[k]? = some (R.own (.slice A n c) xs)) (i : Nat) (hi : i < n) :
    ∃ a x cs, A = some a ∧ xs[i]? = some x ∧ cs.length = R.sz ∧ cellsAt w (a.add (i * R.sz)) 0 cs ∧ Sat (R.el cs x :: Γ) L w := by
  obtain ⟨ow, h1, h2, h3⟩ := h.ex
  obtain ⟨cells, g1, g2, g3⟩ := h3 k _ hk
  obtain ⟨a, x, cs, e1, e2, e3, e4⟩ := Rp.slOk.at (Rp.ownOk.sl ⟨cells, g1, g2, g3⟩) i hi
  obtain ⟨cs', e5, e6⟩ := Rp.cells_get i g2 e2
  refine ⟨a, x, cs', e1, e2, R.len e5, ?_, ow, h1, fun q hq => ?_, h3⟩
  · have h0 := g1.2
    rcases h0 with ⟨e, h0⟩ | ⟨g, cap, cur, e, hb, hg, hnc, hcm, hcs, ht⟩
    · cases e; omega
    · cases e; cases e1
      refine cellsAt_of fun j u hj => ?_
      simp only [add_mk, Nat.zero_add]
      have := e6 j u hj
      rw [← ht, List.getElem?_take] at this
      split at this
      · exact cell_of hg (by simpa using this)
      · cases this
  · rcases List.mem_cons.1 hq with rfl | hq
    · exact e5
    · exact h2 q hq
theorem Sat.slUpto (h : Sat Γ L w) {A : Option Addr} {n c : Nat} {xs : List α} (hm : R.sl (.slice A n c) xs ∈ Γ) (k : Nat) (hk : k ≤ n) : Sat (R.sl (.slice A k c) (xs.take k) :: Γ) L w := by
  refine h.der hm fun I hp => ?_
  obtain ⟨A', c', e, h1, h2, h3⟩ := Rp.slOk.val hp
  cases e
  exact Rp.slOk.upto hp k c hk (by omega) (Nat.le_refl _) fun e => (h3 e).2
theorem Sat.slFrom (h : Sat Γ L w) {A : Option Addr} {n c : Nat} {xs : List α} (hm : R.sl (.slice A n c) xs ∈ Γ) (k : Nat) (hk : k ≤ n) : Sat (R.sl (.slice (if c = k then A else A.map (·.add (k * R.sz))) (n - k) (c - k)) (xs.drop k) :: Γ) L w :=
  h.der hm fun I hp => Rp.slOk.from hp k hk
theorem Sat.slNil (h : Sat Γ L w) (R : Rp α) : Sat (R.sl (.slice none 0 0) [] :: Γ) L w := h.addp fun I _ _ => .nil
/-- An empty slice of one's own. -/
theorem Sat.ownNil (h : Sat Γ L w) (R : Rp α) : Sat Γ (R.own (.slice none 0 0) [] :: L) w := by
  obtain ⟨I, h1, h2, h3⟩ := h.push
  exact h3 w _ (fun _ => False) (Fr.refl _ _) Rp.ownOk.nil fun _ h => h.elim
/-- It is one's own no more. -/
theorem Sat.ownFreeze (h : Sat Γ L w) {k : Nat} {v : Value} {xs : List α} (hk : L[k]? = some (R.own v xs)) : Sat (R.sl v xs :: Γ) (L.set k .emp) w := h.freeze hk fun _ _ h => Rp.ownOk.sl h

/-- append(v, x): x's cells lie in a block. -/
theorem Sat.apOne (h : Sat Γ L w) {k j : Nat} {v : Value} {xs : List α} (hk : L[k]? = some (R.own v xs)) {bx : Nat} {cs : List Value} (hj : L[j]? = some (.blk bx cs R.ty)) {x : α} (hx : R.el cs x ∈ Γ) (he : ElemTy P t R.ty R.sz bytes z)
    (hm : (xs.length + 1) * bytes ≤ 140737488355328) {ty : Nat} {K : Value → World → Prop} (hK : ∀ A' c' w', Sat Γ (L.set k (R.own (.slice A' (xs.length + 1) c') (xs ++ [x]))) w' → K (.slice A' (xs.length + 1) c') w') :
    runD P (Builtin.append_ #[t, t] ty #[v, .slice (some ⟨bx, 0, none⟩) 1 1]) w K := by
  have hb := h.blk hj
  obtain ⟨I, E, h1, h2, h3, ⟨cells, g1, g2, g3⟩, h5, h6⟩ := h.turn hk
  have hxo : R.ok w I cs x := h5 _ hx
  obtain ⟨A', c', w', r1, r2, r3, r4⟩ := ap_one he g1 hb (R.len hxo) (R.one hxo) hm ty
  refine ⟨_, w', r1, hK _ _ _ (h6 w' _ (fun b => (Value.slice A' (xs.length + 1) c').ownBlock = some b) (r3.mono fun b _ hb => g3 b hb) ?_ ?_)⟩
  · have hI : Agr I w w' := r3.agr fun b hb hb' => h3 b hb (g3 b hb')
    exact ⟨_, by simpa using r2, Rp.cells_snoc (R.loc hxo hI) (Rp.cells_loc hI g2), fun b hb => hb⟩
  · intro b hb
    refine ⟨r2.lt b hb, ?_⟩
    rcases r4 with r4 | r4
    · exact .inl (g3 b (r4 ▸ hb))
    · rw [r4] at hb; have : w.heap.size = b := Option.some.inj hb; omega
/-- append(v, ys...) -/
theorem Sat.apMany (h : Sat Γ L w) {k : Nat} {v : Value} {xs ys : List α} (hk : L[k]? = some (R.own v xs)) {A : Option Addr} {n c : Nat} (hy : R.sl (.slice A n c) ys ∈ Γ) (he : ElemTy P t R.ty R.sz bytes z)
    (hm : (xs.length + n) * bytes ≤ 140737488355328) {ty : Nat} {K : Value → World → Prop} (hK : ∀ A' c' w', Sat Γ (L.set k (R.own (.slice A' (xs.length + n) c') (xs ++ ys))) w' → K (.slice A' (xs.length + n) c') w') :
    runD P (Builtin.append_ #[t, t] ty #[v, .slice A n c]) w K := by
  obtain ⟨I, E, h1, h2, h3, ⟨cells, g1, g2, g3⟩, h5, h6⟩ := h.turn hk
  have hyo : R.slOk (.slice A n c) ys w I := h5 _ hy
  obtain ⟨A0, c0, e0, i1, i2, i3⟩ := hyo.val
  cases e0
  obtain ⟨yc, hyc, hrd⟩ : ∃ yc, R.cells w I ys yc ∧ Rd w A yc := by
    obtain ⟨A', cap', e, _, _, _, j4⟩ := hyo
    cases e
    by_cases hne : ys = []
    · subst hne; exact ⟨[], rfl, .inl rfl⟩
    · obtain ⟨b, o, cc, t', fz, cells', e1, j2, j3, j6, j7⟩ := j4 hne
      exact ⟨cells', j6, .inr ⟨b, o, cc, _, fz, e1, j3, j7⟩⟩
  obtain ⟨A', c', w', r1, r2, r3, r4⟩ := ap_many he g1 (m := ys.length) (c := c) i3 hrd (Rp.cells_len hyc) (Rp.cells_one hyc) hm ty
  refine ⟨_, w', r1, hK _ _ _ (h6 w' _ (fun b => (Value.slice A' (xs.length + ys.length) c').ownBlock = some b) (r3.mono fun b _ hb => g3 b hb) ?_ ?_)⟩
  · have hI : Agr I w w' := r3.agr fun b hb hb' => h3 b hb (g3 b hb')
    exact ⟨_, by simpa using r2, Rp.cells_append (Rp.cells_loc hI g2) (Rp.cells_loc hI hyc), fun b hb => hb⟩
  · intro b hb
    refine ⟨r2.lt b hb, ?_⟩
    rcases r4 with r4 | r4
    · exact .inl (g3 b (r4 ▸ hb))
    · rw [r4] at hb; have : w.heap.size = b := Option.some.inj hb; omega
end

/-! ### Ranges over functions -/

section
variable {Γ : List PP} {L : List HP} {w : World}
/-- The record of a range over a function. -/
abbrev HP.lrec (l : Nat) (r : Loop) : HP := .obj l (.loop r)
/-- The block of a mark. -/
abbrev HP.mark (D : Nat) : HP := .obj D (.deferred (some []))

/-- Entering an outermost range over a function. -/
theorem Sat.enter (h : Sat Γ L w) {P : Program} {n : Nat} {ρ : Slots} {m : List Nat} {ps : Array Nat} {as body : Code} {k : Nat} {first cap : List Value} {Q : Exit → List Nat → World → Prop}
    (hK : ∀ r, IsRec n ρ ps as body r → r.state = .ready → r.pending = none → ∀ D l w1, Sat Γ (.lrec l r :: .mark D :: L) w1 → Meets P k (first ++ [.func (.yield l) #[] #[]] ++ cap) w1 fun _ w3 => afterD l (D :: m) Q w3) : rangeD P n none ρ m ps as body k first cap w Q := by
  intro r hr hs hp D l w1 hD hl hw
  exact hK r hr hs hp D l w1 ((h.newO _ hD rfl).newO _ (by rw [hl]; simp) hw)
/-- Entering one within a round. -/
theorem Sat.enterIn (h : Sat Γ L w) {P : Program} {n : Nat} {ρ : Slots} {m : List Nat} {ps : Array Nat} {as body : Code} {k j l0 : Nat} {r0 : Loop} {first cap : List Value} {Q : Exit → List Nat → World → Prop} (hj : L[j]? = some (.lrec l0 r0))
    (hK : ∀ r, IsRec n ρ ps as body r → r.state = .ready → r.pending = none → ∀ l w1, Sat Γ (.lrec l r :: L) w1 → Meets P k (first ++ [.func (.yield l) #[] #[]] ++ cap) w1 fun _ w3 => afterD l m Q w3) : rangeD P n (some l0) ρ m ps as body k first cap w Q :=
  ⟨⟨r0, h.obj hj⟩, fun r hr hs hp l w1 hl hw => hK r hr hs hp l w1 (h.newO _ hl hw)⟩
/-- Behind the function. -/
theorem Sat.after (h : Sat Γ L w) {j l : Nat} {r : Loop} {m : List Nat} {Q : Exit → List Nat → World → Prop} (hj : L[j]? = some (.lrec l r)) (hs : r.state ≠ .busy)
    (hK : ∀ w4, Sat Γ (L.set j (.lrec l { r with state := .exhausted })) w4 → match r.pending with
      | none => Q .normal m w4
      | some .ret => Q .ret m w4
      | some (.exit id) => Q (.exit id) m w4
      | _ => False) : afterD l m Q w :=
  ⟨r, h.obj hj, hs, fun w4 hw => hK w4 (h.putO hj hw)⟩
/-- The function's end, one mark. -/
theorem Sat.unmark (h : Sat Γ L w) {j D : Nat} {m : List Nat} {K : World → Prop} (hj : L[j]? = some (.mark D)) (hK : ∀ w', Sat Γ (L.set j .emp) w' → retM m w' K) : retM (D :: m) w K :=
  ⟨h.obj hj, fun w' hw => hK w' (by
    have h1 := h.putO hj hw
    have h2 := h1.conv (k := j) (P' := .emp) (List.getElem?_set_self (List.getElem?_eq_some_iff.1 hj).1) fun _ _ _ _ => trivial
    simpa using h2)⟩
/-- A call of yield. -/
theorem Sat.yld (h : Sat Γ L w) {P : Program} {n j l : Nat} {ρ : Slots} {ps : Array Nat} {as body : Code} {r : Loop} {args : List Value} {K : Value → World → Prop} (hrec : IsRec n ρ ps as body r) (hj : L[j]? = some (.lrec l r)) (hlen : ps.toList.length = args.length) (hps : psOk n ps.toList = true) {J : List Nat}
    (hd : den P (TI.of P) n (some l) J as (fun e env w1 => match e with
      | .normal => ∃ r1, w1.heap[l]? = some (.loop r1) ∧ r1.state = .ready ∧ ∀ w2, w2 = w1.putObj l (.loop { r1 with state := .busy }) → den P (TI.of P) n (some l) J body (roundQ l K) env w2
      | _ => False) ⟨bindS ps.toList args ρ, []⟩ w) : yldD P l args w K := yld_join hrec (h.obj hj) hlen hps hd
/-- The round begins. -/
theorem Sat.begin (h : Sat Γ L w) {j l : Nat} {r : Loop} {B : World → Prop} (hj : L[j]? = some (.lrec l r)) (hs : r.state = .ready) (hK : ∀ w2, Sat Γ (L.set j (.lrec l { r with state := .busy })) w2 → B w2) :
    ∃ r1, w.heap[l]? = some (.loop r1) ∧ r1.state = .ready ∧ ∀ w2, w2 = w.putObj l (.loop { r1 with state := .busy }) → B w2 :=
  ⟨r, h.obj hj, hs, fun w2 hw => hK w2 (h.putO hj hw)⟩
/-- The round ends. -/
theorem Sat.goesOn (h : Sat Γ L w) {j l : Nat} {r : Loop} {env : Env} {K : Value → World → Prop} (hj : L[j]? = some (.lrec l r)) (hK : ∀ w2, Sat Γ (L.set j (.lrec l { r with state := .ready, pending := none })) w2 → K (.bool true) w2) : roundQ l K .normal env w :=
  ⟨r, h.obj hj, fun w2 hw => hK w2 (h.putO hj hw)⟩
theorem Sat.breaks (h : Sat Γ L w) {j l id : Nat} {r : Loop} {env : Env} {K : Value → World → Prop} (hj : L[j]? = some (.lrec l r)) (hK : ∀ w2, Sat Γ (L.set j (.lrec l { r with state := .done, pending := some (.exit id) })) w2 → K (.bool false) w2) : roundQ l K (.exit id) env w :=
  ⟨r, h.obj hj, fun w2 hw => hK w2 (h.putO hj hw)⟩
theorem Sat.leaves (h : Sat Γ L w) {j l : Nat} {r : Loop} {env : Env} {K : Value → World → Prop} (hj : L[j]? = some (.lrec l r)) (hK : ∀ w2, Sat Γ (L.set j (.lrec l { r with state := .done, pending := some .ret })) w2 → K (.bool false) w2) : roundQ l K .ret env w :=
  ⟨r, h.obj hj, fun w2 hw => hK w2 (h.putO hj hw)⟩
end
end Go.Den

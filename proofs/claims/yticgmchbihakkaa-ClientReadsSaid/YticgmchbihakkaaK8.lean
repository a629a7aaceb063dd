/- Owned slices opened; Clone; Producer.Make, Done. -/
import Derived.Test.YticgmchbihakkaaK7
set_option linter.unusedVariables false
set_option linter.unusedSimpArgs false
namespace Go.Den
open Go
/-- A block's cells bear these elements, one behind the other. -/
def Rp.row {α : Type} (R : Rp α) (cs : List Value) (xs : List α) : PP := ⟨fun w I => ∃ l m, cs = l ++ m ∧ R.cells w I xs l, fun ⟨l, m, e, h⟩ k => ⟨l, m, e, Rp.cells_loc k h⟩, fun ⟨l, m, e, h⟩ k => ⟨l, m, e, Rp.cells_mono k h⟩⟩
section
variable {α : Type} {R : Rp α} {Γ : List PP} {L : List HP} {w : World}
theorem set_get {k : Nat} {P Q : HP} (hk : L[k]? = some P) : (L.set k Q)[k]? = some Q := List.getElem?_set_self (List.getElem?_eq_some_iff.1 hk).1
theorem Sat.ownZero (h : Sat Γ L w) {k b : Nat} (hk : L[k]? = some (.blk b [] R.ty)) : Sat Γ (L.set k (R.own (.slice (some ⟨b, 0, none⟩) 0 0) [])) w :=
  h.conv hk fun I E _ ⟨h1, h2⟩ => ⟨[], ⟨by simp, .inr ⟨b, 0, #[], rfl, Nat.zero_le _, h2, Nat.le_refl _, by simp [maxLen], by simp, by simp⟩⟩, rfl, fun b' hb => by cases hb; exact h1⟩
theorem Sat.ownOpen (h : Sat Γ L w) {k n c : Nat} {a : Addr} {xs : List α} (hk : L[k]? = some (R.own (.slice (some a) n c) xs)) :
    ∃ g cs, a = ⟨g, 0, none⟩ ∧ n = xs.length ∧ n ≤ c ∧ c ≤ maxLen ∧ n * R.sz ≤ cs.length ∧ Sat (R.row cs xs :: Γ) (L.set k (.blk g cs R.ty)) w := by
  have h1 := h.conv (P' := .ex fun g => .ex fun cs => .pure (a = ⟨g, 0, none⟩ ∧ n = xs.length ∧ n ≤ c ∧ c ≤ maxLen ∧ n * R.sz ≤ cs.length) (.with (R.row cs xs) (.blk g cs R.ty))) hk fun I E _ ⟨cells, h1, h2, h3⟩ => by
    obtain ⟨hl, ⟨e, h0⟩ | ⟨g, cap, cur, e, hb, hg, hnc, hcm, hcs, ht⟩⟩ := h1
    · cases e
    · cases e
      refine ⟨g, cur.toList, ⟨rfl, rfl, hnc, hcm, ?_⟩, ⟨cells, cur.toList.drop (xs.length * R.sz), ?_, h2⟩, h3 g rfl, ?_⟩
      · have h9 := Nat.mul_le_mul_right R.sz hnc
        show xs.length * R.sz ≤ cur.toList.length
        have h8 : cur.toList.length = c * R.sz := hcs
        omega
      · rw [← ht, List.take_append_drop]
      · simpa using hg
  obtain ⟨g, h1⟩ := h1.exk (set_get hk)
  rw [List.set_set] at h1
  obtain ⟨cs, h1⟩ := h1.exk (set_get hk)
  rw [List.set_set] at h1
  obtain ⟨⟨e1, e2, e3, e4, e5⟩, h1⟩ := h1.purek (set_get hk)
  rw [List.set_set] at h1
  have h1 := h1.withk (set_get hk)
  rw [List.set_set] at h1
  exact ⟨g, cs, e1, e2, e3, e4, e5, h1⟩
theorem Sat.rowFreeze (h : Sat Γ L w) {k g c : Nat} {cs : List Value} {xs : List α} (hk : L[k]? = some (.blk g cs R.ty)) (hm : R.row cs xs ∈ Γ) (hc : xs.length ≤ c) (hm2 : c ≤ maxLen) :
    Sat (R.sl (.slice (some ⟨g, 0, none⟩) xs.length c) xs :: Γ) (L.set k .emp) w := by
  have h1 := h.conv (P' := .ofP (R.sl (.slice (some ⟨g, 0, none⟩) xs.length c) xs)) hk fun I E hI ⟨h1, h2⟩ => by
    obtain ⟨l, m, e, hl⟩ := hI _ hm
    refine Rp.slOk.mk' (o := 0) (cells := l) (.inr h1) h2 hc hm2 (Rp.cells_mono (fun b _ hb => .inl hb) hl) fun j u hj => ?_
    subst e
    rw [Nat.zero_add]
    simpa using List.getElem?_append_left (l₂ := m) (List.getElem?_eq_some_iff.1 hj).1 ▸ hj
  have h2 := h1.freeze (p := R.sl (.slice (some ⟨g, 0, none⟩) xs.length c) xs) (set_get hk) fun I E h => h
  rwa [List.set_set] at h2
end
end Go.Den
namespace Go.Proofs.Yticgmchbihakkaa
open Go Go.Den
set_option maxRecDepth 100000
section
variable {Γ : List PP} {L : List HP} {w : World}
theorem c75 (h : Sat Γ L w) {v : Value} {rs : List Rec} (hv : recR.sl v rs ∈ Γ) (hl : rs.length ≤ 100000) : Meets Try.prog 75 [v] w fun v' w' => Sat Γ (recR.own v' rs :: L) w' := by
  obtain ⟨A, c, rfl, hc1, hc2, hc3⟩ := h.slVal hv
  refine spec_of Try.func75 Try.ntmps75 Try.results75 rfl (by kernel_rfl) rfl ?_
  cases A with
  | none =>
    obtain ⟨h1, rfl⟩ := hc3 rfl
    have : rs = [] := List.eq_nil_of_length_eq_zero h1
    subst this
    exact ⟨fun _ => h.ownNil recR, fun h => (by cases h)⟩
  | some a =>
    refine ⟨fun h => (by cases h), fun _ => ?_⟩
    refine h.new fun b w1 hS => ?_
    have hS : Sat Γ (.blk b [] 47 :: L) w1 := hS
    have hS := hS.ownZero (R := recR) (k := 0) rfl
    refine hS.apMany (R := recR) (k := 0) rfl hv recTy (by simp; omega) fun A' c' w2 hS => ?_
    exact hS
end
end Go.Proofs.Yticgmchbihakkaa

/- Done, Equal, Grow, Concat; Fixed of the document's answer. -/
import Derived.Test.YticgmchbihakkaaB4
import Derived.Laws.IdiomStrings
import Derived.Laws.BytesArg
import Derived.Lib.AppendZeros
set_option linter.unusedVariables false
set_option linter.unusedSimpArgs false
namespace Go.Proofs.Yticgmchbihakkaa
open Go Go.Den
set_option maxRecDepth 100000

/-- The text that bytes are. -/
def strB (xs : Bytes) : ByteArray := ⟨xs.toArray⟩
theorem strB_inj {xs ys : Bytes} (h : strB xs = strB ys) : xs = ys := by
  have := congrArg (fun b : ByteArray => b.data.toList) h
  simpa [strB] using this

/-- string(v). -/
theorem str_run {w : World} {v : Value} {G : Option Nat} {xs : Bytes} (h : IsB w v G xs) : (Go.convert 22 9 v).run Try.prog w = .ok (.string (strB xs)) w := by
  obtain ⟨A, c, rfl, h1, h2, h3, h4⟩ := h.val
  cases A with
  | none =>
    have : xs = [] := List.eq_nil_of_length_eq_zero (h2 rfl).1
    subst this
    exact run_convert_bytes_nil w 22 5 Try.underlying22 Try.underlying5 _ _ 9 Try.underlying9
  | some a =>
    exact run_convert_bytes_back w 22 9 5 a c xs Try.underlying22 Try.underlying5 Try.underlying9 fun j hj => by
      obtain ⟨a', e, hc⟩ := h1.cell hj
      cases e
      rw [hc, List.getD_eq_getElem?_getD, List.getElem?_eq_getElem hj]; rfl

theorem f115 (w : World) (D : Nat → Prop) (a : Nat) (xs : Bytes) (h : IsW w D a xs false) (hl : xs.length ≤ 100000000000) :
    Meets Try.prog 115 [ptr a] w fun v' w' => ∃ v, v' = .tuple #[v, .bool true] ∧ MadeB w w' v xs := by
  obtain ⟨sl, hb, ho, hD⟩ := h
  refine spec_of Try.func115 Try.ntmps115 Try.results115 rfl (by kernel_rfl) rfl ?_
  refine ⟨_, fun _ => rfl, _, fun _ => rfl, _, _, fun _ => ⟨rfl, cell_of hb rfl⟩, ?_⟩
  refine ⟨fun e => (by cases e), fun _ => ?_⟩
  refine ⟨_, rfl, _, rfl, _, _, ⟨rfl, cell_of hb rfl⟩, ?_⟩
  refine (f113 w sl _ xs (.of ho) hl).mono ?_
  rintro v1 w1 ⟨G', h1, h2, h3, h4, h5⟩
  exact ⟨v1, rfl, h4, h2, by rw [h5]; exact h3⟩

theorem f185 (w : World) (u v : Value) (G G' : Option Nat) (xs ys : Bytes) (hu : IsB w u G xs) (hv : IsB w v G' ys) :
    Meets Try.prog 185 [u, v] w fun v' w' => v' = .bool (decide (xs = ys)) ∧ w' = w := by
  obtain ⟨A, c, rfl, _⟩ := hu.val
  obtain ⟨A', c', rfl, _⟩ := hv.val
  refine spec_of Try.func185 Try.ntmps185 Try.results185 rfl (by kernel_rfl) rfl ?_
  refine ⟨_, w, str_run hu, _, w, str_run hv, ?_, rfl⟩
  show Value.bool (decide (strB xs = strB ys)) = _
  congr 1
  apply decide_eq_decide.2
  exact ⟨strB_inj, fun h => by rw [h]⟩

/-- slices.Grow of nil. -/
theorem f187 (w : World) (n : Nat) (h0 : 0 < n) (hn : n ≤ 100000000000) :
    Meets Try.prog 187 [.slice none 0 0, vi n] w fun v' w' => MadeB w w' v' [] := by
  refine spec_of Try.func187 Try.ntmps187 Try.results187 rfl (by kernel_rfl) rfl ?_
  refine ⟨fun e => absurd e (by simp), fun _ => ?_⟩
  have e0 : IntKind.i64.wrap ((n : Int) - IntKind.i64.wrap (((0 : Nat) : Int) - ((0 : Nat) : Int))) = n := by
    rw [w64 (n := ((0 : Nat) : Int) - _) (by omega), w64 (by omega)]; omega
  refine ⟨fun _ => ?_, fun e => ?_⟩
  · obtain ⟨i, hi, hz, hs, hby⟩ := info_parts byteTy.info
    refine ⟨⟨by show (0 : Int) ≤ _; decide, by show ((0 : Nat) : Int) ≤ _; decide⟩, ?_⟩
    have hr := Lib.run_append_nil_zeros (P := Try.prog) w 22 3 22 5 i (.int .u8 0) .i64 .i64 Try.underlying22 Try.underlying3 hi hz n h0 (by omega) (by omega) (by rw [hby]; omega)
    rw [e0]
    refine ⟨_, _, hr, ?_⟩
    refine ⟨⟨by show (0 : Int) ≤ _; decide, by show ((0 : Nat) : Int) ≤ _; exact Int.natCast_nonneg _⟩, ?_⟩
    have hge := grownCap_ge w n 0 5
    have hsz : (w.drew).heap.size = w.heap.size := rfl
    refine ⟨⟨rfl, .inr ⟨w.heap.size, grownCap w n 0 5, Builtin.zeroCells #[.int .u8 0] n ++ Builtin.zeroCells #[.int .u8 0] (grownCap w n 0 5 - n), rfl, Nat.zero_le _, ?_, Nat.zero_le _, grownCap_le_maxLen w n 0 5 (by simp [maxLen]; omega), ?_, ?_⟩⟩, ?_, ?_⟩
    · show (w.heap.push _)[w.heap.size]? = _
      simp; rfl
    · rw [Array.size_append, size_zeroCells, size_zeroCells]
      show n * 1 + (grownCap w n 0 5 - n) * 1 = _
      omega
    · simp; rfl
    · exact ⟨rfl, rfl, rfl, by show w.heap.size ≤ (w.heap.push _).size; simp, fun k hk _ => by
        show (w.heap.push _)[k]? = _
        rw [Array.getElem?_push, if_neg (by omega)]⟩
    · intro b hb
      have : w.heap.size = b := Option.some.inj hb
      omega
  · rw [e0] at e
    simp at e
    omega

/-- slices.Concat of four, in a list that was just built. -/
theorem f164 (w : World) (b : Nat) (v1 v2 v3 v4 : Value) (G1 G2 G3 G4 : Option Nat) (x1 x2 x3 x4 : Bytes) (h1 : IsB w v1 G1 x1) (h2 : IsB w v2 G2 x2) (h3 : IsB w v3 G3 x3) (h4 : IsB w v4 G4 x4)
    (hb : w.heap[b]? = some (.cells #[v1, v2, v3, v4] 22 (0, 0))) (h0 : 0 < x1.length) (hl : x1.length + x2.length + x3.length + x4.length ≤ 10000000000) :
    Meets Try.prog 164 [.slice (some ⟨b, 0, none⟩) 4 4] w fun v' w' => MadeB w w' v' (x1 ++ x2 ++ x3 ++ x4) := by
  obtain ⟨A1, c1, rfl, _⟩ := h1.val
  obtain ⟨A2, c2, rfl, _⟩ := h2.val
  obtain ⟨A3, c3, rfl, _⟩ := h3.val
  obtain ⟨A4, c4, rfl, _⟩ := h4.val
  refine spec_of Try.func164 Try.ntmps164 Try.results164 rfl (by kernel_rfl) rfl ?_
  let L : List Bytes := [x1, x2, x3, x4]
  let S : Nat → Nat := fun j => ((L.take j).flatten).length
  have hS : ∀ j, S j ≤ 10000000000 := by
    intro j
    match j with
    | 0 => simp [S, L]
    | 1 => simp [S, L]; omega
    | 2 => simp [S, L]; omega
    | 3 => simp [S, L]; omega
    | j + 4 => simp [S, L]; omega
  have hcell : ∀ j, j < 4 → ∃ A c x G, w.cell? ((⟨b, 0, none⟩ : Addr).add (j * 1)) = some (.slice A x.length c) ∧ IsB w (.slice A x.length c) G x ∧ (L.take (j + 1)).flatten = (L.take j).flatten ++ x := by
    intro j hj
    match j, hj with
    | 0, _ => exact ⟨A1, c1, x1, G1, cell_of hb rfl, h1, by simp [L]⟩
    | 1, _ => exact ⟨A2, c2, x2, G2, cell_of hb rfl, h2, by simp [L]⟩
    | 2, _ => exact ⟨A3, c3, x3, G3, cell_of hb rfl, h3, by simp [L]⟩
    | 3, _ => exact ⟨A4, c4, x4, G4, cell_of hb rfl, h4, by simp [L]⟩
  refine ⟨[3, 11], by kernel_rfl, fun vs w1 => w1 = w ∧ ∃ j, j ≤ 4 ∧ vs = [vi (S j), vi j], fun vs _ => match vs with | [_, .int _ j] => (4 - j).toNat | _ => 0, ⟨rfl, 0, by omega, rfl⟩, ?_⟩
  rintro _ w1 ⟨rfl, j, hj, rfl⟩
  refine ⟨rfl, fun hlt => ?_, fun hlt => ?_⟩
  · have hj' : j < 4 := by simp at hlt; omega
    obtain ⟨A, c, x, G, e1, e2, e3⟩ := hcell j hj'
    refine ⟨_, ⟨rfl, Int.natCast_nonneg _, by omega⟩, _, _, ⟨rfl, e1⟩, ?_⟩
    have hSj : S (j + 1) = S j + x.length := by show (List.flatten _).length = _; rw [e3, List.length_append]
    have hb1 := hS (j + 1)
    have ew : IntKind.i64.wrap ((S j : Int) + (x.length : Int)) = ((S (j + 1) : Nat) : Int) := by rw [w64 (by omega)]; omega
    refine ⟨fun e => ?_, fun _ => ⟨⟨rfl, j + 1, by omega, ?_⟩, ?_⟩⟩
    · rw [ew] at e; simp at e; omega
    · show [vi (IntKind.i64.wrap _), vi (IntKind.i64.wrap _)] = _
      rw [ew, w64 (by omega)]; rfl
    · show ((4 : Int) - IntKind.i64.wrap (_ : Int)).toNat < ((4 : Int) - j).toNat
      rw [w64 (by omega)]; omega
  · have hj' : j = 4 := by simp at hlt; omega
    subst hj'
    have hS4 : S 4 = x1.length + x2.length + x3.length + x4.length := by simp [S, L]; omega
    refine (f187 w1 (S 4) (by omega) (by omega)).mono ?_
    intro v5 w5 hm5
    refine ⟨[6, 27], by kernel_rfl, fun vs w6 => ∃ sl, ∃ j : Nat, j ≤ 4 ∧ vs = [sl, vi j] ∧ MadeB w1 w6 sl (L.take j).flatten, fun vs _ => match vs with | [_, .int _ j] => (4 - j).toNat | _ => 0, ⟨v5, 0, by omega, rfl, hm5⟩, ?_⟩
    rintro _ w6 ⟨sl, j, hj, rfl, hm⟩
    refine ⟨rfl, fun hlt => ?_, fun hlt => ?_⟩
    · have hj' : j < 4 := by simp at hlt; omega
      obtain ⟨A, c, x, G, e1, e2, e3⟩ := hcell j hj'
      have hSj : S (j + 1) = S j + x.length := by show (List.flatten _).length = _; rw [e3, List.length_append]
      have hb1 := hS (j + 1)
      have e1' : w6.cell? ((⟨b, 0, none⟩ : Addr).add (j * 1)) = some (.slice A x.length c) := by
        have hb6 := hm.2.1.blk hb (no_none _)
        have : w6.cell? ((⟨b, 0, none⟩ : Addr).add (j * 1)) = w1.cell? ((⟨b, 0, none⟩ : Addr).add (j * 1)) := by
          rw [add_mk]
          simp only [World.cell?, hb6, hb]
        rw [this, e1]
      refine ⟨_, ⟨rfl, Int.natCast_nonneg _, by omega⟩, _, _, ⟨rfl, e1'⟩, ?_⟩
      obtain ⟨A', c', w7, r1, r2⟩ := made_bytes hm (e2.fr0 hm.2.1) (by show S j + x.length ≤ _; omega)
      obtain ⟨A0, c0, rfl⟩ := Own.ex hm.1
      refine ⟨_, w7, r1, ⟨_, j + 1, by omega, ?_, by rw [e3]; exact r2⟩, ?_⟩
      · show [_, vi (IntKind.i64.wrap _)] = _
        rw [w64 (by omega)]; rfl
      · show ((4 : Int) - IntKind.i64.wrap (_ : Int)).toNat < ((4 : Int) - j).toNat
        rw [w64 (by omega)]; omega
    · have hj' : j = 4 := by simp at hlt; omega
      subst hj'
      have : (L.take 4).flatten = x1 ++ x2 ++ x3 ++ x4 := by simp [L]
      rw [this] at hm
      exact hm

end Go.Proofs.Yticgmchbihakkaa

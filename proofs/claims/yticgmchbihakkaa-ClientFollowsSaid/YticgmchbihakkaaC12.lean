/- What 'awake' of chapter 6 asks; the statement's walk. -/
import Derived.Test.YticgmchbihakkaaC11
set_option linter.unusedVariables false
set_option linter.unusedSimpArgs false
namespace Go.Proofs.Yticgmchbihakkaa
open Go Go.Den
set_option maxRecDepth 100000

section
variable {Γ : List PP} {L : List HP} {w : World}

theorem c64one (h : Sat Γ L w) {v : Value} (hv : byt v [1] ∈ Γ) : Meets Try.prog 64 [v] w fun v' w' => ∃ u, v' = .tuple #[u, vi 2] ∧ Sat Γ L w' := by
  obtain ⟨A, c, rfl, hc1, hc2⟩ := h.bytVal hv
  refine spec_of Try.func64 Try.ntmps64 Try.results64 rfl (by kernel_rfl) rfl ?_
  refine (c88 h hv (by decide)).mono ?_
  rintro _ w1 ⟨a, rfl, hS⟩
  have hS := hS.ownNil entR
  have r1 : rFix (([1] : Bytes), 0) 8 = (0, [1], 2) := by decide
  have r2 : rFix (([1] : Bytes), 2) 8 = (0, [1], 2) := by decide
  refine ⟨[2], by kernel_rfl, fun vs w' => (vs = [.slice none 0 0] ∧ Sat Γ (entR.own (.slice none 0 0) [] :: rdr a [1] 0 :: L) w') ∨ ∃ b o cp, vs = [.slice (some ⟨b, o, none⟩) 1 cp] ∧ Sat Γ (entR.own (.slice (some ⟨b, o, none⟩) 1 cp) [(0, 0)] :: rdr a [1] 2 :: L) w', fun vs _ => match vs with | [.slice none _ _] => 1 | _ => 0, .inl ⟨rfl, hS⟩, ?_⟩
  rintro _ w2 (⟨rfl, hS⟩ | ⟨b, o, cp, rfl, hS⟩)
  · refine ⟨rfl, ?_⟩
    refine (c93 hS (k := 1) rfl).mono ?_
    rintro _ w2 ⟨rfl, rfl⟩
    refine ⟨fun _ => ?_, fun h => (by cases h)⟩
    refine (c116 hS (k := 1) rfl (size := 8) (by omega) (by omega) (by decide) r1).mono ?_
    rintro _ w3 ⟨rfl, hS⟩
    refine (c116 hS (k := 1) rfl (size := 8) (by omega) (by omega) (by decide) r2).mono ?_
    rintro _ w4 ⟨rfl, hS⟩
    refine hS.new fun b6 w5 hS => ?_
    have hS : Sat Γ (.blk b6 [vi 0, vi 0] 125 :: entR.own (.slice none 0 0) [] :: rdr a [1] 2 :: L) w5 := hS
    have hS := hS.elPlain (ty := 125) (sz := 2) (enc := fun x : Ent => [vi x.1, vi x.2]) (hl := fun _ => rfl) (h1 := fun a u hu => by simp at hu; rcases hu with rfl | rfl <;> rfl) (hp := by decide) ((0, 0) : Ent)
    refine hS.apOne (R := entR) (k := 1) (j := 0) rfl rfl mh entTy (by decide) fun A' c' w6 hS => ?_
    have hS := hS.drop.tail
    obtain ⟨I, E, _, _, _, ⟨cells, hown, _⟩, _⟩ := hS.turn (k := 0) rfl
    rcases hown.2 with ⟨e, h0⟩ | ⟨g, cap, cur, e, _⟩
    · cases h0
    · cases e
      exact ⟨.inr ⟨g, 0, c', rfl, hS⟩, by show 0 < 1; decide⟩
  · refine ⟨rfl, ?_⟩
    refine (c93 hS (k := 1) rfl).mono ?_
    rintro _ w2 ⟨rfl, rfl⟩
    refine ⟨fun h => (by cases h), fun _ => ?_⟩
    have hS := hS.ownFreeze (R := entR) (k := 0) rfl
    refine (c63 hS mh (by decide) (by intro x hx; simp at hx; subst hx; unfold entOk; decide) (R := some ((0, 0), fixedB 0 8 ++ fixedB 0 8)) (by rfl)).mono ?_
    rintro _ w3 ⟨u, rfl, hS⟩
    refine Or.inr ?_
    refine ⟨_, fun _ => (c92 hS (k := 1) rfl).mono fun _ _ h => h, ?_⟩
    refine ⟨fun _ => by decide, ?_⟩
    refine ⟨fun _ => ?_, fun h => (by cases h)⟩
    exact ⟨_, rfl, hS.tail.tail.drop.drop⟩

theorem c12 (h : Sat Γ L w) : Meets Try.prog 12 [] w fun v' w' => v' = .bool true ∧ Sat Γ L w' := by
  refine spec_of Try.func12 Try.ntmps12 Try.results12 rfl (by kernel_rfl) rfl ?_
  refine h.new fun b1 w1 hS => ?_
  have hS : Sat Γ (.blk b1 [vi 3, vi 50, vi 7, vi 90] 125 :: L) w1 := hS
  have hS := hS.freeze (k := 0) (p := entR.sl (.slice (some ⟨b1, 0, none⟩) 2 2) [(3, 50), (7, 90)]) rfl fun I E ⟨h1, h2⟩ => Rp.slOk.mk' (R := entR) (xs := [(3, 50), (7, 90)]) (o := 0) (cap := 2) (cells := [vi 3, vi 50, vi 7, vi 90]) (.inr h1) h2 (by decide) (by decide) ⟨[vi 3, vi 50], _, rfl, rfl, ⟨[vi 7, vi 90], [], rfl, rfl, rfl⟩⟩ fun j u hj => by simpa using hj
  refine (c63 hS mh (by decide) (by intro x hx; simp at hx; rcases hx with rfl | rfl <;> (unfold entOk; decide)) (R := some ((7, 90), [] ++ fixedB 3 8 ++ fixedB 50 8 ++ fixedB 7 8 ++ fixedB 90 8)) (by rfl)).mono ?_
  rintro _ w2 ⟨u, rfl, hS⟩
  obtain ⟨A2, c2, rfl, _⟩ := hS.bytVal mh
  refine hS.new fun b3 w3 hS => ?_
  have hS : Sat _ (.blk b3 [.int .u8 1] 5 :: .emp :: L) w3 := hS
  have hS := hS.freeze (k := 0) (p := byt (.slice (some ⟨b3, 0, none⟩) 1 1) [1]) rfl fun I E ⟨h1, h2⟩ => ⟨some b3, IsB.mk' (xs := [1]) h2 (by decide) (by decide) (fun j x hj => by
    match j with
    | 0 => simp at hj; subst hj; rfl
    | j + 1 => simp at hj), fun b hb => by cases hb; exact .inr h1⟩
  refine (c64one hS mh).mono ?_
  rintro _ w4 ⟨u4, rfl, hS⟩
  refine (c65 hS (xs := [(3, 50), (7, 90)]) (mt (mt mh)) 6).mono ?_
  rintro _ w5 ⟨rfl, hS⟩
  refine Or.inl ?_
  refine ⟨fun _ => (c65 hS (xs := [(3, 50), (7, 90)]) (mt (mt mh)) 2).mono ?_, fun h => absurd ⟨rfl, trivial⟩ h⟩
  rintro _ w6 ⟨rfl, hS⟩
  exact ⟨rfl, hS.tail.tail.tail.drop.drop⟩
end
end Go.Proofs.Yticgmchbihakkaa

/- oindex: Lookup, begins, Build, Seek. -/
import Derived.Test.YticgmchbihakkaaC3
set_option linter.unusedVariables false
set_option linter.unusedSimpArgs false
namespace Go.Proofs.Yticgmchbihakkaa
open Go Go.Den
set_option maxRecDepth 100000

abbrev Ent := Int × Int
def entR : Rp Ent := .plain 125 2 (fun x => [vi x.1, vi x.2]) (fun _ => rfl) (fun a u hu => by simp at hu; rcases hu with rfl | rfl <;> rfl) (by decide)

def lookS (off : Int) (pos : Int) (x : Ent) : Int := if x.1 ≤ off then x.2 else pos
def lookD (l : List Ent) (off : Int) : Int := l.foldl (lookS off) 0

section
variable {Γ : List PP} {L : List HP} {w : World}

theorem c65 (h : Sat Γ L w) {v : Value} {xs : List Ent} (hv : entR.sl v xs ∈ Γ) (off : Int) :
    Meets Try.prog 65 [v, vi off] w fun v' w' => v' = vi (lookD xs off) ∧ Sat Γ L w' := by
  obtain ⟨A, c, rfl, hc1, hc2, _⟩ := h.slVal hv
  simp only [maxLen] at hc2
  refine spec_of Try.func65 Try.ntmps65 Try.results65 rfl (by kernel_rfl) rfl ?_
  refine ⟨[4, 9], by kernel_rfl, fun vs w' => ∃ i : Nat, i ≤ xs.length ∧ vs = [vi (lookD (xs.take i) off), vi i] ∧ Sat Γ L w', fun vs _ => match vs with | [_, .int _ i] => (xs.length - i).toNat | _ => 0, ⟨0, by omega, rfl, h⟩, ?_⟩
  rintro _ w1 ⟨i, hi, rfl, hS⟩
  refine ⟨rfl, fun hlt => ?_, fun hlt => ?_⟩
  · have hlt : i < xs.length := by simpa using hlt
    obtain ⟨a, x, cs, rfl, hx, _, hcs, hS⟩ := hS.slAt hv i hlt
    obtain rfl := hS.plain mh
    have ht : xs.take (i + 1) = xs.take i ++ [x] := by rw [List.take_add_one, hx]; rfl
    have hstep : lookD (xs.take (i + 1)) off = lookS off (lookD (xs.take i) off) x := by rw [ht, lookD, List.foldl_append]; rfl
    have ei : IntKind.i64.wrap ((i : Int) + 1) = ((i + 1 : Nat) : Int) := by rw [w64 (by omega)]; rfl
    refine ⟨_, ⟨rfl, Int.natCast_nonneg _, by omega⟩, _, _, ⟨rfl, rfl, hcs⟩, ?_⟩
    refine hS.new fun b6 w2 hS => ?_
    have hS : Sat _ (.blk b6 [vi 0, vi 0] 125 :: L) w2 := hS
    refine hS.stAll (vs := [vi x.1, vi x.2]) (k := 0) rfl rfl (by intro u hu; simp at hu; rcases hu with rfl | rfl <;> rfl) fun w3 hS => ?_
    have hS : Sat _ (.blk b6 [vi x.1, vi x.2] 125 :: L) w3 := hS
    refine ⟨_, rfl, _, _, ⟨rfl, cell_of (hS.blk (k := 0) rfl) rfl⟩, ?_⟩
    refine ⟨fun hc => ?_, fun hc => ?_⟩
    · have hc : x.1 ≤ off := by simpa using hc
      refine ⟨_, rfl, _, _, ⟨rfl, cell_of (hS.blk (k := 0) rfl) rfl⟩, ?_⟩
      refine ⟨⟨i + 1, hlt, ?_, hS.drop.tail⟩, ?_⟩
      · show [vi x.2, vi (IntKind.i64.wrap ((i : Int) + 1))] = _
        rw [ei, hstep, lookS, if_pos hc]
      · show ((xs.length : Int) - IntKind.i64.wrap ((i : Int) + 1)).toNat < ((xs.length : Int) - i).toNat
        rw [ei]; omega
    · have hc : ¬ x.1 ≤ off := by simpa using hc
      refine ⟨⟨i + 1, hlt, ?_, hS.drop.tail⟩, ?_⟩
      · show [vi (lookD (xs.take i) off), vi (IntKind.i64.wrap ((i : Int) + 1))] = _
        rw [ei, hstep, lookS, if_neg hc]
      · show ((xs.length : Int) - IntKind.i64.wrap ((i : Int) + 1)).toNat < ((xs.length : Int) - i).toNat
        rw [ei]; omega
  · have hlt : ¬ i < xs.length := by simpa using hlt
    have : xs.take i = xs := List.take_of_length_le (by omega)
    rw [this]
    exact ⟨rfl, hS⟩

theorem c67 (h : Sat Γ L w) {v : Value} {p : Bytes} (hv : byt v p ∈ Γ) : Meets Try.prog 67 [v] w fun v' w' => ∃ b, v' = .func (.func 117) #[] #[ptr b] ∧ Sat Γ (.blk b [v] 22 :: L) w' := by
  obtain ⟨A, c, rfl, hc1, hc2⟩ := h.bytVal hv
  refine spec_of Try.func67 Try.ntmps67 Try.results67 rfl (by kernel_rfl) rfl ?_
  refine h.new fun b w1 hS => ?_
  exact ⟨b, rfl, hS⟩

theorem c66 (h : Sat Γ L w) {v : Value} {p : Bytes} (hv : byt v p ∈ Γ) (hl : p.length ≤ 100000000000) (pos : Int) :
    Meets Try.prog 66 [v, vi pos] w fun v' w' => v' = .bool ((allB p).any fun x => decide ((x.1 : Int) = pos)) ∧ Sat Γ L w' := by
  obtain ⟨A, c, rfl, hc1, hc2⟩ := h.bytVal hv
  refine spec_of Try.func66 Try.ntmps66 Try.results66 rfl (by kernel_rfl) rfl ?_
  refine h.new fun b3 w1 hS => ?_
  refine hS.new fun b4 w2 hS => ?_
  have hS : Sat Γ (.blk b4 [.bool false] 4 :: .blk b3 [vi pos] 3 :: L) w2 := hS
  refine (c67 hS hv).mono ?_
  rintro _ w3 ⟨bc, rfl, hS⟩
  refine hS.enter fun r hr hrs hrp D l w4 hS => ?_
  have er : r = { r with state := .ready, pending := none } := by cases r; simp_all
  let St : Loop → Bool → List HP := fun r res => .lrec l r :: .mark D :: .blk bc [.slice A p.length c] 22 :: .blk b4 [.bool res] 4 :: .blk b3 [vi pos] 3 :: L
  have hS : Sat Γ (St { r with state := .ready, pending := none } false) w4 := by rw [← er]; exact hS
  refine (c117 hS (k := 2) (v := .slice A p.length c) hl rfl (I := fun pre Δ R => Δ = Γ ∧ R = St { r with state := .ready, pending := none } false ∧ (pre.any fun x => decide ((x.1 : Int) = pos)) = false)
    (Ix := fun pre Δ R => Δ = Γ ∧ R = St { r with state := .done, pending := some .ret } true ∧ (pre.any fun x => decide ((x.1 : Int) = pos)) = true) ⟨rfl, rfl, rfl⟩ ?_ ?_).mono ?_
  · rintro pre _ _ ⟨rfl, rfl, _⟩
    exact ⟨hv, rfl⟩
  · rintro pre x vs _ _ F w5 ⟨rfl, rfl, hno⟩ hpre ⟨u, rfl⟩ hS
    refine hS.yld (j := 1) (hr.upd _ _) rfl rfl rfl (J := []) ?_
    refine hS.begin (j := 1) rfl rfl fun w6 hS => ?_
    refine ⟨_, _, ⟨rfl, hS.ld (k := 5) (i := 0) rfl rfl⟩, ?_⟩
    refine ⟨fun hc => ?_, fun hc => ?_⟩
    · have hc : (x.1 : Int) = pos := by simpa using hc
      refine hS.st (k := 4) (i := 0) rfl (by decide) rfl fun w7 hS => ?_
      refine ⟨_, hS.obj (k := 1) rfl, fun wE hwE => ?_⟩
      have hS := hS.putO (k := 1) rfl hwE
      exact ⟨_, _, hS.tail, .inr ⟨rfl, rfl, rfl, by simp [List.any_append, hc]⟩⟩
    · have hc : ¬ (x.1 : Int) = pos := by simpa using hc
      refine ⟨_, hS.obj (k := 1) rfl, fun wE hwE => ?_⟩
      have hS := hS.putO (k := 1) rfl hwE
      exact ⟨_, _, hS.tail, .inl ⟨rfl, rfl, rfl, by simp [List.any_append, hno, hc]⟩⟩
  · rintro _ w5 ⟨_, _, hS, ⟨rfl, rfl, hno⟩ | ⟨pre, hpre, rfl, rfl, hyes⟩⟩
    · refine hS.after (j := 0) rfl (by simp) fun w6 hS => ?_
      refine hS.st (k := 3) (i := 0) rfl (by decide) rfl fun w7 hS => ?_
      refine hS.unmark (j := 1) rfl fun w8 hS => ?_
      exact ⟨_, hS.ld (k := 3) (i := 0) rfl rfl, by rw [hno]; rfl, hS.drop.drop.drop.drop.drop⟩
    · refine hS.after (j := 0) rfl (by simp) fun w6 hS => ?_
      refine hS.unmark (j := 1) rfl fun w8 hS => ?_
      refine ⟨_, hS.ld (k := 3) (i := 0) rfl rfl, ?_, hS.drop.drop.drop.drop.drop⟩
      have : ((allB p).any fun x => decide ((x.1 : Int) = pos)) = true := by
        obtain ⟨t, ht⟩ := hpre
        rw [← ht, List.any_append, hyes]; rfl
      rw [this]; rfl
end
end Go.Proofs.Yticgmchbihakkaa

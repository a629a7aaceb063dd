/- oindex: Encode, and what 'awake' asks. -/
import Derived.Test.YticgmchbihakkaaL1
set_option linter.unusedVariables false
set_option linter.unusedSimpArgs false
namespace Go.Proofs.Yticgmchbihakkaa
open Go Go.Den
set_option maxRecDepth 100000

def encS (s : Option (Ent × Bytes)) (x : Ent) : Option (Ent × Bytes) := s.bind fun s => if x.1 ≤ s.1.1 ∨ x.2 ≤ s.1.2 then none else some (x, s.2 ++ fixedB x.1.toNat 8 ++ fixedB x.2.toNat 8)
def encE (l : List Ent) : Option (Ent × Bytes) := l.foldl encS (some ((-1, -1), []))
def encErr : Option (Ent × Bytes) → Int
  | some _ => 0
  | none => 1
def encOut : Option (Ent × Bytes) → Bytes
  | some s => s.2
  | none => []
theorem encE_none (l : List Ent) : l.foldl encS none = none := by
  induction l with
  | nil => rfl
  | cons x l ih => exact ih
theorem encE_len (l : List Ent) : ∀ s, encE l = some s → s.2.length = 16 * l.length ∧ -1 ≤ s.1.1 ∧ -1 ≤ s.1.2 := by
  refine snoc_ind (P := fun l => ∀ s, encE l = some s → s.2.length = 16 * l.length ∧ -1 ≤ s.1.1 ∧ -1 ≤ s.1.2) ?_ ?_ l
  · intro s h; cases h; simp
  · intro l x ih s h
    rw [encE, List.foldl_append] at h
    change encS (encE l) x = some s at h
    cases he : encE l with
    | none => rw [he] at h; cases h
    | some t =>
      obtain ⟨h1, h2, h3⟩ := ih t he
      rw [he] at h
      simp only [encS, Option.bind_some] at h
      split at h
      · cases h
      · cases h
        simp [fixedB_length]; omega

section
variable {Γ : List PP} {L : List HP} {w : World}

theorem wr_turn (h : Sat Γ L w) {k a : Nat} {bad : Bool} {xs : Bytes} (hk : L[k]? = some (wr a xs bad)) : ∃ D, IsW w D a xs bad ∧ ∀ w' D' xs' bad', IsW w' D' a xs' bad' → Fr D w w' → (∀ k, D' k → D k ∨ w.heap.size ≤ k) → Sat Γ (L.set k (wr a xs' bad')) w' := by
  obtain ⟨I, E, h1, h2, h3, ⟨sl, g1, g2, g3, g4⟩, h5, h6⟩ := h.turn hk
  refine ⟨fun k => k = a ∨ sl.ownBlock = some k, ⟨sl, g1, g2, fun _ => Iff.rfl⟩, ?_⟩
  rintro w' D' xs' bad' ⟨sl', i1, i2, i3⟩ f hn
  refine h6 w' _ (fun k => k = a ∨ sl'.ownBlock = some k) (f.mono fun k _ hk => ?_) ⟨sl', i1, i2, .inl rfl, fun b hb => .inr hb⟩ ?_
  · rcases hk with rfl | hk
    · exact g3
    · exact g4 k hk
  · intro k hk
    have hlt : k < w'.heap.size := by
      rcases hk with rfl | hk
      · exact lt_of_blk i1
      · exact Own.lt i2 k hk
    refine ⟨hlt, ?_⟩
    rcases hn k ((i3 k).2 hk) with (rfl | h) | h
    · exact .inl g3
    · exact .inl (g4 k h)
    · exact .inr h
theorem c114 (h : Sat Γ L w) {k a : Nat} {bad : Bool} {xs : Bytes} (hk : L[k]? = some (wr a xs bad)) (n : Int) (size : Nat) (h0 : 0 ≤ n) (h1 : 1 ≤ size) (h8 : size ≤ 8) (hf : size < 8 → n.toNat < 2 ^ (8 * size)) (hn2 : n < 9223372036854775808) (hl : xs.length ≤ 100000000000) :
    Meets Try.prog 114 [ptr a, vi n, vi size] w fun v' w' => v' = ptr a ∧ Sat Γ (L.set k (wr a (xs ++ fixedB n.toNat size) bad)) w' := by
  obtain ⟨D, g1, g2⟩ := wr_turn h hk
  have := f114 w D a xs bad n.toNat size g1 h1 h8 hf (by omega) hl
  rw [show ((n.toNat : Nat) : Int) = n by omega] at this
  refine this.mono ?_
  rintro v' w' ⟨e, D', i1, i2, i3⟩
  exact ⟨e, g2 _ _ _ _ i1 i2 i3⟩
theorem c115 (h : Sat Γ L w) {k a : Nat} {xs : Bytes} (hk : L[k]? = some (wr a xs false)) (hl : xs.length ≤ 100000000000) :
    Meets Try.prog 115 [ptr a] w fun v' w' => ∃ v, v' = .tuple #[v, .bool true] ∧ Sat Γ (ownB v xs :: L) w' := by
  obtain ⟨D, g1, g2⟩ := wr_turn h hk
  refine (f115 w D a xs g1 hl).mono ?_
  rintro v' w' ⟨v, e, i1, i2, i3⟩
  obtain ⟨I, h1, h2, h3⟩ := h.push
  exact ⟨v, e, h3 w' (ownB v xs) (fun b => v.ownBlock = some b) i2 ⟨i1, fun b hb => hb⟩ fun b hb => ⟨Own.lt i1 b hb, i3 b hb⟩⟩
/-- A new writer. -/
theorem _root_.Go.Den.Sat.wrNew {b : Nat} (h : Sat Γ (.blk b [.slice none 0 0, .bool false] 214 :: L) w) : Sat Γ (wr b [] false :: L) w :=
  h.conv (k := 0) (P' := wr b [] false) rfl fun I E _ ⟨h1, h2⟩ => ⟨.slice none 0 0, h2, Own.nil _ _ _, h1, fun c hc => by cases hc⟩

def entOk (x : Ent) : Prop := x.1 < 9223372036854775808 ∧ x.2 < 9223372036854775808

theorem c63 (h : Sat Γ L w) {v : Value} {xs : List Ent} (hv : entR.sl v xs ∈ Γ) (hl : xs.length ≤ 1000000000) (hok : ∀ x ∈ xs, entOk x) {R : Option (Ent × Bytes)} (hR : encE xs = R) :
    Meets Try.prog 63 [v] w fun v' w' => ∃ u, v' = .tuple #[u, vi (encErr R)] ∧ Sat (byt u (encOut R) :: Γ) L w' := by
  obtain ⟨A, c, rfl, hc1, hc2, _⟩ := h.slVal hv
  refine spec_of Try.func63 Try.ntmps63 Try.results63 rfl (by kernel_rfl) rfl ?_
  refine h.new fun b11 w1 hS => ?_
  have hS : Sat Γ (.blk b11 [.slice none 0 0, .bool false] 214 :: L) w1 := hS
  have hS := hS.wrNew
  refine hS.new fun b5 w2 hS => ?_
  have hS : Sat Γ (.blk b5 [vi 0, vi 0] 125 :: wr b11 [] false :: L) w2 := hS
  refine hS.stAll (vs := [vi (-1), vi (-1)]) (k := 0) rfl rfl (by intro u hu; simp at hu; subst hu; rfl) fun w3 hS => ?_
  refine ⟨[2, 3, 15], by kernel_rfl, fun vs w' => ∃ (i : Nat) (s : Ent × Bytes), vs = [.slice none 0 0, vi 0, vi i] ∧ i ≤ xs.length ∧ encE (xs.take i) = some s ∧ Sat Γ (.blk b5 [vi s.1.1, vi s.1.2] 125 :: wr b11 s.2 false :: L) w', fun vs _ => match vs with | [_, _, .int _ i] => (xs.length - i).toNat | _ => 0, ⟨0, ((-1, -1), []), rfl, by omega, rfl, hS⟩, ?_⟩
  rintro _ w4 ⟨i, s, rfl, hi, hse, hS⟩
  refine ⟨rfl, fun hlt => ?_, fun hlt => ?_⟩
  · have hlt : i < xs.length := by have := of_decide_eq_true hlt; omega
    obtain ⟨a, x, cs, rfl, hx, _, hcs, hS⟩ := hS.slAt hv i hlt
    obtain rfl := hS.plain mh
    have ht : xs.take (i + 1) = xs.take i ++ [x] := by rw [List.take_add_one, hx]; rfl
    have hstep : encE (xs.take (i + 1)) = encS (some s) x := by rw [ht, encE, List.foldl_append]; show encS (encE (xs.take i)) x = _; rw [hse]
    have hxo := hok x (List.mem_of_getElem? hx)
    have hsl := encE_len _ _ hse
    rw [List.length_take] at hsl
    refine ⟨_, ⟨rfl, Int.natCast_nonneg _, by omega⟩, _, _, ⟨rfl, rfl, hcs⟩, ?_⟩
    refine hS.new fun b7 w5 hS => ?_
    have hS : Sat _ (.blk b7 [vi 0, vi 0] 125 :: .blk b5 [vi s.1.1, vi s.1.2] 125 :: wr b11 s.2 false :: L) w5 := hS
    refine hS.stAll (vs := [vi x.1, vi x.2]) (k := 0) rfl rfl (by intro u hu; simp at hu; rcases hu with rfl | rfl <;> rfl) fun w6 hS => ?_
    have hS : Sat _ (.blk b7 [vi x.1, vi x.2] 125 :: .blk b5 [vi s.1.1, vi s.1.2] 125 :: wr b11 s.2 false :: L) w6 := hS
    refine ⟨_, rfl, _, _, ⟨rfl, cell_of (hS.blk (k := 0) rfl) rfl⟩, _, rfl, _, _, ⟨rfl, cell_of (hS.blk (k := 1) rfl) rfl⟩, _, fun _ => rfl, _, _, fun _ => ⟨rfl, cell_of (hS.blk (k := 0) rfl) rfl⟩, _, fun _ => rfl, _, _, fun _ => ⟨rfl, cell_of (hS.blk (k := 1) rfl) rfl⟩, ?_⟩
    refine ⟨fun hc => ?_, fun hc => ?_⟩
    · have hc : (decide (x.1 ≤ s.1.1) || decide (x.2 ≤ s.1.2)) = true := hc
      have hn : encS (some s) x = none := by
        simp only [encS, Option.bind_some]
        rw [if_pos (by simpa using hc)]
      have hnone : R = none := by
        rw [← hR, show xs = xs.take (i + 1) ++ xs.drop (i + 1) by simp, encE, List.foldl_append]
        show List.foldl encS (encE (xs.take (i + 1))) _ = none
        rw [hstep, hn, encE_none]
      subst hnone
      exact ⟨_, rfl, (hS.bytNil.sub (Γ' := _ :: Γ) fun q hq => by
        rcases List.mem_cons.1 hq with rfl | hq
        · exact mh
        · exact mt (mt hq)).drop.drop.drop⟩
    · have hc : (decide (x.1 ≤ s.1.1) || decide (x.2 ≤ s.1.2)) = false := hc
      have hc' : ¬ (x.1 ≤ s.1.1 ∨ x.2 ≤ s.1.2) := by simpa using hc
      have hn : encS (some s) x = some (x, s.2 ++ fixedB x.1.toNat 8 ++ fixedB x.2.toNat 8) := by
        simp only [encS, Option.bind_some]
        rw [if_neg hc']
      unfold entOk at hxo
      have hS := hS.drew
      refine ⟨hs [0, 1, 2, 4, 5] (.one 3 true (.one 6 true .nil)), fun u => u.heap[b7]? = _, by kernel_rfl, by kernel_rfl, hS.blk (k := 0) rfl, ?_⟩
      refine ⟨_, rfl, _, _, ⟨rfl, fun u hu => cell_of hu rfl⟩, _, rfl, _, _, ⟨rfl, fun u hu => cell_of hu rfl⟩, ?_⟩
      refine (c114 hS (k := 2) rfl x.1 8 (by omega) (by omega) (by omega) (by omega) (by omega) (by omega)).mono ?_
      rintro _ w7 ⟨rfl, hS⟩
      refine ⟨hS.blk (k := 0) rfl, ?_⟩
      refine (c114 hS (k := 2) rfl x.2 8 (by omega) (by omega) (by omega) (by omega) (by omega) (by simp [fixedB_length]; omega)).mono ?_
      rintro _ w8 ⟨rfl, hS⟩
      refine ⟨hS.blk (k := 0) rfl, ?_⟩
      refine ⟨_, _, ⟨rfl, rfl, hS.ldAll (k := 0) rfl⟩, ?_⟩
      refine hS.stAll (vs := [vi x.1, vi x.2]) (k := 1) rfl rfl (by intro u hu; simp at hu; rcases hu with rfl | rfl <;> rfl) fun w9 hS => ?_
      have ei : IntKind.i64.wrap ((i : Int) + 1) = ((i + 1 : Nat) : Int) := by rw [w64 (by simp only [maxLen] at hc2; omega)]; rfl
      refine ⟨⟨i + 1, (x, s.2 ++ fixedB x.1.toNat 8 ++ fixedB x.2.toNat 8), ?_, hlt, by rw [hstep, hn], hS.drop.tail⟩, ?_⟩
      · show [_, _, vi (IntKind.i64.wrap ((i : Int) + 1))] = _
        rw [ei]
      · show ((xs.length : Int) - IntKind.i64.wrap ((i : Int) + 1)).toNat < ((xs.length : Int) - i).toNat
        rw [ei]; omega
  · have hlt : ¬ i < xs.length := by have := of_decide_eq_false hlt; omega
    have : xs.take i = xs := List.take_of_length_le (by omega)
    rw [this, hR] at hse
    subst hse
    have hsl := encE_len _ _ hR
    refine (c115 hS (k := 1) rfl (by omega)).mono ?_
    rintro _ w5 ⟨u, rfl, hS⟩
    exact ⟨u, rfl, (hS.bytFreeze (k := 0) rfl).drop.drop.drop⟩
end
end Go.Proofs.Yticgmchbihakkaa

/- oindex: Build, Seek. -/
import Derived.Test.YticgmchbihakkaaC4
set_option linter.unusedVariables false
set_option linter.unusedSimpArgs false
namespace Go.Proofs.Yticgmchbihakkaa
open Go Go.Den
set_option maxRecDepth 100000

theorem entTy : ElemTy Try.prog 26 entR.ty entR.sz 16 (.agg #[vi 0, vi 0]) := ⟨by kernel_rfl, by kernel_rfl, rfl, by decide, by decide⟩

def bStep (every : Int) (s : List Ent × Int) (x : Nat × Bat) : List Ent × Int := if max every 1 ≤ IntKind.i64.wrap ((x.1 : Int) - s.2) then (s.1 ++ [(x.2.base, (x.1 : Int))], (x.1 : Int)) else s
def buildD (all : List (Nat × Bat)) (every : Int) : List Ent × Int := all.foldl (bStep every) ([], 0)
theorem buildD_snoc (pre : List (Nat × Bat)) (x : Nat × Bat) (every : Int) : buildD (pre ++ [x]) every = bStep every (buildD pre every) x := by simp [buildD]
theorem buildD_len (every : Int) (pre : List (Nat × Bat)) : (buildD pre every).1.length ≤ pre.length := by
  refine snoc_ind (P := fun pre => (buildD pre every).1.length ≤ pre.length) (by simp [buildD]) (fun pre x ih => ?_) pre
  rw [buildD_snoc, bStep]
  split
  · simp; omega
  · simp; omega
theorem allF_lenK : ∀ (k : Nat) (xs : Bytes) (at0 : Nat) (last : Int), xs.length ≤ k → (allF xs at0 last).length ≤ k := by
  intro k
  induction k with
  | zero =>
    intro xs at0 last h
    rw [allF_eq]
    split
    · simp
    · rename_i b n hf
      have := firstD_len hf
      omega
  | succ k ih =>
    intro xs at0 last h
    rw [allF_eq]
    split
    · simp
    · rename_i b n hf
      have := firstD_len hf
      split
      · simp
      · have := ih (xs.drop n) (at0 + n) b.last (by simp; omega)
        simp; omega
theorem allB_len (p : Bytes) : (allB p).length ≤ p.length := allF_lenK _ _ _ _ (Nat.le_refl _)

section
variable {Γ : List PP} {L : List HP} {w : World}

theorem c14 (h : Sat Γ L w) {v : Value} {p : Bytes} (hv : byt v p ∈ Γ) (hl : p.length ≤ 1000000000) (every : Int) :
    Meets Try.prog 14 [v, vi every] w fun v' w' => Sat (entR.sl v' (buildD (allB p) every).1 :: Γ) L w' := by
  obtain ⟨A, c, rfl, hc1, hc2⟩ := h.bytVal hv
  refine spec_of Try.func14 Try.ntmps14 Try.results14 rfl (by kernel_rfl) rfl ?_
  refine h.new fun b3 w1 hS => ?_
  refine hS.new fun b4 w2 hS => ?_
  refine hS.new fun b5 w3 hS => ?_
  have hS : Sat Γ (.blk b5 [vi 0] 3 :: .blk b4 [.slice none 0 0] 26 :: .blk b3 [vi every] 3 :: L) w3 := hS
  refine hS.st (k := 0) (i := 0) rfl (by decide) rfl fun w4 hS => ?_
  refine (c67 hS hv).mono ?_
  rintro _ w5 ⟨bc, rfl, hS⟩
  have hS := hS.ownNil entR
  refine hS.enter fun r hr hrs hrp D l w6 hS => ?_
  have er : r = { r with state := .ready, pending := none } := by cases r; simp_all
  let St : Loop → Value → List Ent × Int → List HP := fun r sl s => .lrec l r :: .mark D :: entR.own sl s.1 :: .blk bc [.slice A p.length c] 22 :: .blk b5 [vi s.2] 3 :: .blk b4 [sl] 26 :: .blk b3 [vi every] 3 :: L
  have hS : Sat Γ (St { r with state := .ready, pending := none } (.slice none 0 0) ([], 0)) w6 := by rw [← er]; exact hS
  refine (c117 hS (k := 3) (v := .slice A p.length c) (p := p) (by omega) rfl (I := fun pre Δ R => Γ = Δ ∧ ∃ sl, R = St { r with state := .ready, pending := none } sl (buildD pre every))
    (Ix := fun _ _ _ => False) ⟨rfl, _, rfl⟩ ?_ ?_).mono ?_
  · rintro pre _ _ ⟨rfl, sl, rfl⟩
    exact ⟨hv, rfl⟩
  · rintro pre x vs _ _ F w5 ⟨rfl, sl, rfl⟩ hpre ⟨u, rfl⟩ hS
    obtain ⟨rv, rfl, hS⟩ := hS.bat mh
    have hlen : pre.length ≤ p.length := by
      obtain ⟨t, ht⟩ := hpre
      have h1 := congrArg List.length ht
      have h2 := allB_len p
      simp at h1; omega
    have hbl := buildD_len every pre
    obtain ⟨A2, c2, rfl, _⟩ := hS.ownVal (k := 3) rfl
    have hb0 := buildD_snoc pre x every
    generalize buildD pre every = s at hS hbl hb0
    refine hS.yld (j := 1) (hr.upd _ _) rfl rfl rfl (J := []) ?_
    refine hS.new fun b7 w7 hS => ?_
    have hS : Sat _ (.blk b7 [vi 0, vi 0, vi 0, vi 0, vi 0, .slice none 0 0] 32 :: F :: St { r with state := .ready, pending := none } _ s) w7 := hS
    refine hS.stAll (vs := [vi x.2.base, vi x.2.last, vi x.2.prod, vi x.2.epoch, vi x.2.seq, rv]) (k := 0) rfl rfl (by
      obtain ⟨A3, c3, rfl, _⟩ := hS.slVal mh
      intro u hu; simp at hu; rcases hu with rfl | rfl | rfl | rfl | rfl | rfl <;> rfl) fun w8 hS => ?_
    have hS : Sat _ (.blk b7 [vi x.2.base, vi x.2.last, vi x.2.prod, vi x.2.epoch, vi x.2.seq, rv] 32 :: F :: St { r with state := .ready, pending := none } _ s) w8 := hS
    refine hS.begin (j := 2) rfl rfl fun w9 hS => ?_
    refine ⟨_, _, ⟨rfl, hS.ld (k := 6) (i := 0) rfl rfl⟩, _, _, ⟨rfl, hS.ld (k := 8) (i := 0) rfl rfl⟩, ?_⟩
    have hdrop : ∀ {Γ' : List PP} {u : World} {sl' : Value} {s' : List Ent × Int}, Sat (Γ' ++ Γ) (.blk b7 [vi x.2.base, vi x.2.last, vi x.2.prod, vi x.2.epoch, vi x.2.seq, rv] 32 :: F :: St { r with state := .ready, pending := none } sl' s') u → Sat Γ (F :: St { r with state := .ready, pending := none } sl' s') u := fun h => (h.sub fun q hq => List.mem_append_right _ hq).drop
    refine ⟨fun hc => ?_, fun hc => ?_⟩
    · have hc : max every 1 ≤ IntKind.i64.wrap ((x.1 : Int) - s.2) := by simpa using hc
      have hsn : bStep every s x = (s.1 ++ [(x.2.base, (x.1 : Int))], (x.1 : Int)) := by rw [bStep, if_pos hc]
      refine ⟨_, _, ⟨rfl, hS.ld (k := 7) (i := 0) rfl rfl⟩, _, rfl, _, _, ⟨rfl, cell_of (hS.blk (k := 0) rfl) rfl⟩, ?_⟩
      refine hS.new fun b8 w10 hS => ?_
      have hS : Sat _ (.blk b8 [vi x.2.base, vi x.1] 125 :: .blk b7 [vi x.2.base, vi x.2.last, vi x.2.prod, vi x.2.epoch, vi x.2.seq, rv] 32 :: F :: St { r with state := .busy, pending := none } _ s) w10 := hS
      have hS := hS.elPlain (ty := 125) (sz := 2) (enc := fun x : Ent => [vi x.1, vi x.2]) (hl := fun _ => rfl) (h1 := fun a u hu => by simp at hu; rcases hu with rfl | rfl <;> rfl) (hp := by decide) (x.2.base, (x.1 : Int))
      refine hS.apOne (R := entR) (k := 5) (j := 0) rfl rfl mh entTy (by omega) fun A' c' w11 hS => ?_
      have hS : Sat _ (.blk b8 [vi x.2.base, vi x.1] 125 :: .blk b7 [vi x.2.base, vi x.2.last, vi x.2.prod, vi x.2.epoch, vi x.2.seq, rv] 32 :: F :: .lrec l { r with state := .busy, pending := none } :: .mark D :: entR.own (.slice A' (s.1.length + 1) c') (s.1 ++ [(x.2.base, (x.1 : Int))]) :: .blk bc [.slice A p.length c] 22 :: .blk b5 [vi s.2] 3 :: .blk b4 [_] 26 :: .blk b3 [vi every] 3 :: L) w11 := hS
      refine hS.st (k := 8) (i := 0) rfl Nat.zero_lt_one rfl fun w12 hS => ?_
      refine hS.st (k := 7) (i := 0) rfl Nat.zero_lt_one rfl fun w13 hS => ?_
      refine ⟨_, hS.obj (k := 3) rfl, fun wE hwE => ?_⟩
      have hS := hS.putO (k := 3) rfl hwE
      exact ⟨_, _, hdrop (Γ' := [_, _, _]) (sl' := .slice A' (s.1.length + 1) c') (s' := (s.1 ++ [(x.2.base, (x.1 : Int))], (x.1 : Int))) hS.drop, .inl ⟨rfl, rfl, _, by rw [hb0, hsn]⟩⟩
    · have hc : ¬ max every 1 ≤ IntKind.i64.wrap ((x.1 : Int) - s.2) := by simpa using hc
      have hsn : bStep every s x = s := by rw [bStep, if_neg hc]
      refine ⟨_, hS.obj (k := 2) rfl, fun wE hwE => ?_⟩
      have hS := hS.putO (k := 2) rfl hwE
      exact ⟨_, _, hdrop (Γ' := [_, _]) (s' := s) hS, .inl ⟨rfl, rfl, _, by rw [hb0, hsn]⟩⟩
  · rintro _ w5 ⟨_, _, hS, ⟨rfl, sl, rfl⟩ | ⟨pre, hpre, h⟩⟩
    · obtain ⟨A2, c2, rfl, _⟩ := hS.ownVal (k := 2) rfl
      refine hS.after (j := 0) rfl (by simp) fun w6 hS => ?_
      refine ⟨_, _, ⟨rfl, hS.ld (k := 5) (i := 0) rfl rfl⟩, ?_⟩
      refine hS.st (k := 5) (i := 0) rfl Nat.zero_lt_one rfl fun w7 hS => ?_
      refine hS.unmark (j := 1) rfl fun w8 hS => ?_
      refine ⟨_, hS.ld (k := 5) (i := 0) rfl rfl, ?_⟩
      exact (hS.ownFreeze (R := entR) (k := 2) rfl).drop.drop.drop.drop.drop.drop.drop
    · exact h.elim
end
end Go.Proofs.Yticgmchbihakkaa

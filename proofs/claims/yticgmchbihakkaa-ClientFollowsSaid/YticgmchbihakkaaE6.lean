/- The engine, part 6: regions and code are sound. -/
import Derived.Test.YticgmchbihakkaaE5
set_option linter.unusedVariables false
set_option linter.unusedSimpArgs false
namespace Go.Den
open Go

/-- Conditions, by the slots that guard. -/
def HoldsG (σ : List (Nat × List (Nat × Bool) × Bool)) (G : List (Nat × Bool)) : Prop := ∀ x ∈ G, ∃ gs e, findσ x.1 σ = some (gs, e) ∧ e = x.2
def DefG (σ : List (Nat × List (Nat × Bool) × Bool)) (G : List (Nat × Bool)) : Prop := ∀ x ∈ G, (findσ x.1 σ).isSome = true

structure RInv (n : Nat) (r : RS) (tmps : Array Value) : Prop where
  size : tmps.size = n
  ρ : ∀ t v, look r.ρ t = some v → tmps[t]? = some v
  γ : ∀ t gs v, (t, gs, v) ∈ r.γ → DefG r.σ gs ∧ (HoldsG r.σ gs → tmps[t]? = some v) ∧ (¬ HoldsG r.σ gs → tmps[t]? = some undef)
  σ : ∀ s gs e, findσ s r.σ = some (gs, e) → DefG r.σ gs ∧ (HoldsG r.σ gs → tmps[s]? = some (.bool e)) ∧ (¬ HoldsG r.σ gs → tmps[s]? = some undef)

theorem memG_spec {s : Nat} {b : Bool} : ∀ {G : List (Nat × Bool)}, memG s b G = true → (s, b) ∈ G
  | [], h => by simp [memG] at h
  | (s', b') :: l, h => by
    simp only [memG, Bool.or_eq_true, Bool.and_eq_true] at h
    rcases h with ⟨h1, h2⟩ | h
    · have e1 : s' = s := Nat.eq_of_beq_eq_true h1
      have e2 : b' = b := by cases b' <;> cases b <;> simp [bEq] at h2 <;> rfl
      subst e1; subst e2; simp
    · exact List.mem_cons_of_mem _ (memG_spec h)
theorem subG_spec : ∀ {gs G : List (Nat × Bool)}, subG gs G = true → ∀ x ∈ gs, x ∈ G
  | [], _, _, x, hx => by cases hx
  | (s, b) :: l, G, h, x, hx => by
    simp only [subG, Bool.and_eq_true] at h
    rcases List.mem_cons.1 hx with rfl | hx
    · exact memG_spec h.1
    · exact subG_spec h.2 x hx
theorem lookγ_spec {G : List (Nat × Bool)} {t : Nat} {v : Value} : ∀ {l}, lookγ G t l = some v → ∃ gs, (t, gs, v) ∈ l ∧ ∀ x ∈ gs, x ∈ G
  | [], h => by cases h
  | (d, gs, u) :: l, h => by
    simp only [lookγ] at h
    cases hd : Nat.beq d t with
    | true =>
      rw [hd] at h
      have e : d = t := Nat.eq_of_beq_eq_true hd
      cases hs : subG gs G with
      | true => rw [hs] at h; simp at h; subst h; subst e; exact ⟨gs, by simp, subG_spec hs⟩
      | false => rw [hs] at h; cases h
    | false =>
      rw [hd] at h
      obtain ⟨gs', hm, hs⟩ := lookγ_spec (l := l) h
      exact ⟨gs', List.mem_cons_of_mem _ hm, hs⟩
theorem findγ_spec {t : Nat} {x : List (Nat × Bool) × Value} : ∀ {l}, findγ t l = some x → (t, x) ∈ l
  | [], h => by cases h
  | (d, y) :: l, h => by
    simp only [findγ] at h
    cases hd : Nat.beq d t with
    | true => rw [hd] at h; have e : d = t := Nat.eq_of_beq_eq_true hd; simp at h; subst h; subst e; simp
    | false => rw [hd] at h; exact List.mem_cons_of_mem _ (findγ_spec (l := l) h)
theorem dropγ_spec {t d : Nat} {x : List (Nat × Bool) × Value} : ∀ {l}, (d, x) ∈ dropγ t l → (d, x) ∈ l ∧ d ≠ t
  | [], h => by cases h
  | (e, y) :: l, h => by
    simp only [dropγ] at h
    cases hd : Nat.beq e t with
    | true => rw [hd] at h; have := dropγ_spec (l := l) h; exact ⟨List.mem_cons_of_mem _ this.1, this.2⟩
    | false =>
      rw [hd] at h
      rcases List.mem_cons.1 h with h | h
      · cases h
        exact ⟨by simp, fun he => by rw [he] at hd; simp at hd⟩
      · have := dropγ_spec (l := l) h; exact ⟨List.mem_cons_of_mem _ this.1, this.2⟩
theorem findσ_cons {s d : Nat} {x : List (Nat × Bool) × Bool} {l} : findσ s ((d, x) :: l) = if d = s then some x else findσ s l := by
  simp only [findσ]
  by_cases h : d = s
  · subst h; simp
  · have : Nat.beq d s = false := by rw [← Bool.not_eq_true]; exact fun h' => h (Nat.eq_of_beq_eq_true h')
    rw [this]; simp [h]
theorem look_cons {t d : Nat} {x : Option Value} {l : Slots} : look ((d, x) :: l) t = if d = t then x else look l t := by
  simp only [look]
  by_cases h : d = t
  · subst h; simp
  · have : Nat.beq d t = false := by rw [← Bool.not_eq_true]; exact fun h' => h (Nat.eq_of_beq_eq_true h')
    rw [this]; simp [h]

theorem HoldsG.cons {σ} {d : Nat} {x : List (Nat × Bool) × Bool} (hd : findσ d σ = none) {G : List (Nat × Bool)} (hG : DefG σ G) : HoldsG ((d, x) :: σ) G ↔ HoldsG σ G := by
  have key : ∀ y ∈ G, findσ y.1 ((d, x) :: σ) = findσ y.1 σ := fun y hy => by
    rw [findσ_cons, if_neg]
    rintro rfl
    have := hG y hy
    rw [hd] at this; cases this
  constructor
  · intro h y hy; obtain ⟨gs, e, h1, h2⟩ := h y hy; exact ⟨gs, e, by rw [← key y hy]; exact h1, h2⟩
  · intro h y hy; obtain ⟨gs, e, h1, h2⟩ := h y hy; exact ⟨gs, e, by rw [key y hy]; exact h1, h2⟩
theorem DefG.cons {σ} {d : Nat} {x : List (Nat × Bool) × Bool} {G : List (Nat × Bool)} (hG : DefG σ G) : DefG ((d, x) :: σ) G := fun y hy => by
  rw [findσ_cons]; split
  · rfl
  · exact hG y hy
theorem HoldsG.def {σ} {G : List (Nat × Bool)} (h : HoldsG σ G) : DefG σ G := fun x hx => by obtain ⟨gs, e, h1, _⟩ := h x hx; rw [h1]; rfl

theorem condsOf_spec {σ} : ∀ {G : List (Nat × Bool)} {c : List (Bool × Bool)}, condsOf σ G = some c → (conds c ↔ HoldsG σ G) ∧ (c = [] ↔ G = []) ∧ DefG σ G
  | [], c, h => by simp [condsOf] at h; subst h; exact ⟨⟨fun _ x hx => (by cases hx), fun _ => trivial⟩, by simp, fun x hx => (by cases hx)⟩
  | (s, b) :: G, c, h => by
    simp only [condsOf] at h
    split at h
    · rename_i gs e c' h1 h2
      cases h
      obtain ⟨i1, i2, i3⟩ := condsOf_spec h2
      refine ⟨⟨?_, ?_⟩, by simp, ?_⟩
      · rintro ⟨he, hc⟩ x hx
        rcases List.mem_cons.1 hx with rfl | hx
        · exact ⟨gs, e, h1, he⟩
        · exact i1.1 hc x hx
      · intro hh
        refine ⟨?_, i1.2 fun x hx => hh x (List.mem_cons_of_mem _ hx)⟩
        obtain ⟨gs', e', h3, h4⟩ := hh (s, b) (by simp)
        simp only at h3
        rw [h1] at h3; cases h3; exact h4
      · intro x hx
        rcases List.mem_cons.1 hx with rfl | hx
        · simp [h1]
        · exact i3 x hx
    · cases h

theorem eval_tmp_of {a : Act} {t : Nat} {v : Value} (h : a.tmps[t]? = some v) : a.eval (.tmp t) = v := by
  obtain ⟨hl, he⟩ := Array.getElem?_eq_some_iff.1 h
  simp [Act.eval, Array.getD, hl, he]

theorem lookG_spec {n : Nat} {r : RS} {tmps : Array Value} (h : RInv n r tmps) {G G' : List (Nat × Bool)} (hG : HoldsG r.σ G') (hs : ∀ x ∈ G, x ∈ G' ∨ HoldsG r.σ [x]) {t : Nat} {v : Value} (hl : lookG r G t = some v) : tmps[t]? = some v := by
  unfold lookG at hl
  split at hl
  · rename_i u hu; cases hl; exact h.ρ _ _ hu
  · obtain ⟨gs, hm, hsub⟩ := lookγ_spec hl
    refine (h.γ _ _ _ hm).2.1 fun x hx => ?_
    rcases hs x (hsub x hx) with h' | h'
    · exact hG x h'
    · exact h' x (by simp)

theorem evalIn_spec {a : Act} {f : Nat → Option Value} (hf : ∀ t v, f t = some v → a.tmps[t]? = some v) : ∀ x v, evalIn f x = some v → a.eval x = v := by
  intro x v h
  cases x with
  | tmp t => exact eval_tmp_of (hf _ _ h)
  | const v' => simp [evalIn] at h; simp [Act.eval, h]
  | global g => simp [evalIn] at h; simp [Act.eval, h]
  | func f => simp [evalIn] at h; simp [Act.eval, h]

theorem tmps_put {a : Act} {d : Nat} {v : Value} (hd : d < a.tmps.size) (t : Nat) : (a.put (some d) v).tmps[t]? = if d = t then some v else a.tmps[t]? := by
  simp only [Act.put, Array.getElem?_setIfInBounds]
  split <;> simp [hd]

theorem putR_eq {n d : Nat} {G : List (Nat × Bool)} {v : Value} {r : RS} {K : RS → Prop} : putR n (some d) G v r K = (bif Nat.blt d n && (findσ d r.σ).isNone then
      (match G with
       | [] => K ⟨(d, some v) :: r.ρ, dropγ d r.γ, r.σ⟩
       | x :: G' => K ⟨(d, none) :: r.ρ, (d, x :: G', v) :: dropγ d r.γ, r.σ⟩) else False) := by
  obtain ⟨ρ, γ, σ⟩ := r
  cases G <;> cases γ <;> rfl

/-- A slot is written: the guard's conditions hold, or they don't and nothing is said of the value. -/
theorem putR_spec {n : Nat} {r : RS} {a : Act} (h : RInv n r a.tmps) {d : Option Nat} {G : List (Nat × Bool)} (hG : DefG r.σ G) {v u : Value} (hu1 : HoldsG r.σ G → u = v) (hu2 : ¬ HoldsG r.σ G → u = undef) {K : RS → Prop} (hk : putR n d G v r K) :
    ∃ r', RInv n r' (a.put d u).tmps ∧ K r' := by
  cases d with
  | none => exact ⟨r, h, hk⟩
  | some d =>
    rw [putR_eq] at hk
    cases hb : (Nat.blt d n && (findσ d r.σ).isNone) with
    | false => rw [hb] at hk; exact hk.elim
    | true =>
      rw [hb] at hk
      rw [Bool.and_eq_true] at hb
      have hd : d < a.tmps.size := by rw [h.size]; exact Nat.le_of_ble_eq_true hb.1
      have hσd : findσ d r.σ = none := by simpa using hb.2
      have hσ : ∀ s gs e, findσ s r.σ = some (gs, e) → DefG r.σ gs ∧ (HoldsG r.σ gs → (a.put (some d) u).tmps[s]? = some (.bool e)) ∧ (¬ HoldsG r.σ gs → (a.put (some d) u).tmps[s]? = some undef) := by
        intro s gs e hs
        have hne : d ≠ s := by rintro rfl; rw [hσd] at hs; cases hs
        rw [tmps_put hd, if_neg hne]
        exact h.σ s gs e hs
      have hγ : ∀ t gs v, (t, gs, v) ∈ dropγ d r.γ → DefG r.σ gs ∧ (HoldsG r.σ gs → (a.put (some d) u).tmps[t]? = some v) ∧ (¬ HoldsG r.σ gs → (a.put (some d) u).tmps[t]? = some undef) := by
        intro t gs v hm
        obtain ⟨h1, h2⟩ := dropγ_spec hm
        rw [tmps_put hd, if_neg (Ne.symm h2)]
        exact h.γ t gs v h1
      simp only [cond_true] at hk
      split at hk
      · refine ⟨⟨(d, some v) :: r.ρ, dropγ d r.γ, r.σ⟩, ⟨by simp [Act.put, h.size], ?_, hγ, hσ⟩, hk⟩
        intro t w ht
        rw [look_cons] at ht
        rw [tmps_put hd]
        split at ht
        · rename_i e; rw [if_pos e]; cases ht; rw [hu1 (fun x hx => by cases hx)]
        · rename_i e; rw [if_neg e]; exact h.ρ _ _ ht
      · rename_i x G'
        refine ⟨⟨(d, none) :: r.ρ, (d, x :: G', v) :: dropγ d r.γ, r.σ⟩, ⟨by simp [Act.put, h.size], ?_, ?_, hσ⟩, hk⟩
        · intro t w ht
          rw [look_cons] at ht
          rw [tmps_put hd]
          split at ht
          · cases ht
          · rename_i e; rw [if_neg e]; exact h.ρ _ _ ht
        · intro t gs w hm
          rcases List.mem_cons.1 hm with hm | hm
          · cases hm
            refine ⟨hG, fun hh => ?_, fun hh => ?_⟩
            · rw [tmps_put hd, if_pos rfl, hu1 hh]
            · rw [tmps_put hd, if_pos rfl, hu2 hh]
          · exact hγ t gs w hm

theorem pickR_spec {P : Program} {n : Nat} {r : RS} {a : Act} (h : RInv n r a.tmps) {G : List (Nat × Bool)} (hG : HoldsG r.σ G) {c x y : Operand} {K : Value → Prop} (hk : pickR r G c x y K) :
    ∃ b, (do pure (.value (if ← asBool (a.eval c) then a.eval x else a.eval y)) : Sem Next) = pure (.value (.bool b)) ∧ K (.bool b) := by
  unfold pickR at hk
  split at hk
  · rename_i s
    split at hk
    · rename_i e hs
      have hs' := lookG_spec h hG (fun x hx => .inl hx) hs
      have hc : a.eval (.tmp s) = .bool e := eval_tmp_of hs'
      -- under the further guard
      have ext : ∀ b, e = b → ∀ x ∈ (s, b) :: G, x ∈ G ∨ ((findσ x.1 r.σ).isSome = true → HoldsG r.σ [x]) := by
        intro b hb x hx
        rcases List.mem_cons.1 hx with rfl | hx
        · refine .inr fun hd => ?_
          obtain ⟨⟨gs, e'⟩, hfs⟩ := Option.isSome_iff_exists.1 hd
          obtain ⟨_, h1, h2⟩ := h.σ _ _ _ hfs
          intro y hy
          rw [List.mem_singleton] at hy; subst hy
          refine ⟨gs, e', hfs, ?_⟩
          by_cases hh : HoldsG r.σ gs
          · have := h1 hh; rw [hs'] at this; cases this; exact hb
          · have := h2 hh; rw [hs'] at this; cases this
        · exact .inl hx
      have lk : ∀ b, e = b → ∀ (z : Operand) v, evalIn (lookG r ((s, b) :: G)) z = some v → a.eval z = v := by
        intro b hb z v hz
        refine evalIn_spec (fun t v ht => ?_) z v hz
        unfold lookG at ht
        split at ht
        · rename_i u hu; cases ht; exact h.ρ _ _ hu
        · obtain ⟨gs, hm, hsub⟩ := lookγ_spec ht
          obtain ⟨hdef, hv, _⟩ := h.γ _ _ _ hm
          refine hv fun x hx => ?_
          rcases ext b hb x (hsub x hx) with h' | h'
          · exact hG x h'
          · exact h' (hdef x hx) x (by simp)
      cases hT : isT x with
      | true =>
        rw [hT] at hk
        simp only [cond_true] at hk
        have hx : a.eval x = .bool true := by
          unfold isT at hT; split at hT
          · rfl
          · cases hT
        split at hk
        · rename_i y' hy
          refine ⟨_, ?_, hk⟩
          rw [hc]
          cases e with
          | true => simp [asBool, hx]
          | false => simp [asBool, lk false rfl _ _ hy]
        · exact hk.elim
      | false =>
        rw [hT] at hk
        simp only [cond_false] at hk
        cases hF : isF y with
        | true =>
          rw [hF] at hk
          simp only [cond_true] at hk
          have hy : a.eval y = .bool false := by
            unfold isF at hF; split at hF
            · rfl
            · cases hF
          split at hk
          · rename_i y' hx
            refine ⟨_, ?_, hk⟩
            rw [hc]
            cases e with
            | true => simp [asBool, lk true rfl _ _ hx]
            | false => simp [asBool, hy]
          · exact hk.elim
        | false => rw [hF] at hk; exact hk.elim
    · exact hk.elim
  · exact hk.elim

/-- Whatever the conditions, the step goes on with some value. -/
theorem intD_K {c op k x y} {K : Value → Prop} (h : intD c op k x y K) : ∃ v, K v := by
  cases op <;> simp only [intD] at h <;> first | exact ⟨_, h⟩ | exact ⟨_, h.2⟩ | exact h.elim
theorem strD_K {c op x y} {K : Value → Prop} (h : strD op x y c K) : ∃ v, K v := by
  cases op <;> simp only [strD] at h <;> first | exact ⟨_, h⟩ | exact ⟨_, h.2⟩ | exact h.elim
theorem eqlD_K {T neg x y} {K : Value → Prop} (h : eqlD T neg x y K) : ∃ v, K v := by
  unfold eqlD at h
  split at h <;> first | exact ⟨_, h⟩ | exact h.elim
theorem binD_K {T c op x y} {K : Value → Prop} (h : binD T c op x y K) : ∃ v, K v := by
  unfold binD at h
  split at h
  · split at h
    · exact ⟨_, h.2⟩
    · exact ⟨_, h.2⟩
    · rename_i k _ k' _ _ _ _
      cases hk : kindEq k k' with
      | true => rw [hk] at h; exact intD_K h
      | false => rw [hk] at h; exact h.elim
  · exact strD_K h
  · split at h
    · exact eqlD_K h
    · exact eqlD_K h
    · exact h.elim
theorem sliceD_K {c esz A n cap lo hi mx} {K : Value → Prop} (h : sliceD c esz A n cap lo hi mx K) : ∃ v, K v := by
  unfold sliceD at h
  split at h <;> first | exact ⟨_, h⟩ | exact ⟨_, h.2⟩ | exact ⟨_, h.2 _ rfl⟩ | exact h.elim
theorem sliceS_K {c s lo hi} {K : Value → Prop} (h : sliceS c s lo hi K) : ∃ v, K v := by
  unfold sliceS at h
  split at h <;> first | exact ⟨_, h⟩ | exact ⟨_, h.2⟩
theorem unD_K {op x} {K : Value → Prop} (h : unD op x K) : ∃ v, K v := by
  unfold unD at h
  split at h <;> first | exact ⟨_, h⟩ | exact h.elim
theorem stepP_K {P : Program} {T : Nat → TI} {f : Operand → Option Value} {c : List (Bool × Bool)} {op : Op} {rd : (World → Prop) → Prop} {K : Value → Prop} {p : Prop} (h : stepP P T f c op rd K = some p) (hp : p) : ∃ v, K v := by
  unfold stepP at h
  split at h
  · cases h; obtain ⟨v, _, hK⟩ := need_elim hp; exact ⟨v, hK⟩
  · cases h; obtain ⟨v, _, hK⟩ := need_elim hp; exact ⟨v, hK⟩
  · cases h
    split at hp
    · split at hp
      · obtain ⟨_, _, _, hK⟩ := hp; exact ⟨_, hK⟩
      · exact hp.elim
      · obtain ⟨_, _, _, hK⟩ := hp; exact ⟨_, hK⟩
    · exact hp.elim
  · cases h
    split at hp
    · obtain ⟨_, _, hK⟩ := hp; exact ⟨_, hK⟩
    · split at hp
      · exact hp.elim
      · exact ⟨_, hp⟩
    · exact hp.elim
  · split at h
    · cases h
    · cases h; exact binD_K hp
    · cases h; exact hp.elim
  · cases h; obtain ⟨v, _, hK⟩ := need_elim hp; exact unD_K hK
  · split at h
    · cases h; exact ⟨_, hp⟩
    · cases h; exact ⟨_, hp⟩
    · cases h
  · cases h; obtain ⟨v, _, hK⟩ := need_elim hp
    split at hK
    · exact hK.elim
    · exact hK.elim
    · exact ⟨_, hK⟩
  · cases h; obtain ⟨v, _, hK⟩ := need_elim hp; obtain ⟨v, _, hK⟩ := need_elim hK; exact ⟨_, hK⟩
  · cases h
    split at hp
    · split at hp
      · rename_i off size _
        cases hz : Nat.beq size 0 with
        | true => rw [hz] at hp; exact hp.elim
        | false => rw [hz] at hp; obtain ⟨_, _, hK⟩ := hp; exact ⟨_, hK⟩
      · exact hp.elim
    · exact hp.elim
  · cases h
    split at hp
    · obtain ⟨_, _, hK⟩ := hp; exact ⟨_, hK⟩
    · exact hp.elim
  · cases h
    split at hp
    · exact ⟨_, hp.2⟩
    · exact hp.elim
  · cases h
    split at hp
    · exact sliceD_K hp
    · exact sliceS_K hp
    · exact hp.elim
  · cases h
    split at hp
    · obtain ⟨v, _, hK⟩ := need_elim hp; exact ⟨_, hK⟩
    · exact hp.elim
  · cases h
    split at hp
    · rename_i t _ _ fs _
      cases hz : Nat.ble 1 (T t).zero.length with
      | false => rw [hz] at hp; exact hp.elim
      | true => rw [hz] at hp; simp only [cond_true] at hp; obtain ⟨v, _, hK⟩ := need_elim hp; obtain ⟨v, _, hK⟩ := need_elim hK; exact ⟨_, hK⟩
    · exact hp.elim
  · split at h
    · split at h
      · split at h
        · cases h; exact ⟨_, hp⟩
        · cases h
      · split at h
        · cases h; exact ⟨_, hp⟩
        · cases h
      · cases h
    · split at h
      · split at h
        · cases h; exact ⟨_, hp⟩
        · cases h
      · cases h
    · split at h
      · cases h; obtain ⟨v, _, hK⟩ := need_elim hp; exact ⟨_, hK⟩
      · cases h
    · split at h
      · cases h; obtain ⟨v, _, hK⟩ := need_elim hp; exact ⟨_, hK⟩
      · cases h
    · cases h
  · cases h
theorem pickR_K {r G c x y} {K : Value → Prop} (hk : pickR r G c x y K) : ∃ v, K v := by
  unfold pickR at hk
  split at hk
  · split at hk
    · cases hT : isT x with
      | true => rw [hT] at hk; simp only [cond_true] at hk; split at hk; exact ⟨_, hk⟩; exact hk.elim
      | false =>
        rw [hT] at hk; simp only [cond_false] at hk
        cases hF : isF y with
        | true => rw [hF] at hk; simp only [cond_true] at hk; split at hk; exact ⟨_, hk⟩; exact hk.elim
        | false => rw [hF] at hk; exact hk.elim
    · exact hk.elim
  · exact hk.elim

section
variable {P : Program} {n : Nat} {ops : Array Oper} {Q : Exit → Act → World → Prop} {ro : Option Nat}

theorem semAt_of {o : Oper} {ρ : Operand → Value} (h : ∀ c, o.op ≠ .defer c) : o.semAt ro ρ = execOp ρ o := Oper.semAt_eq ro ρ o h

theorem wpIn_WF {o : Oper} {a : Act} {w : World} {next : Act → World → Prop} (hd : ∀ c, o.op ≠ .defer c) (h : o.uponIn (WF ro) 0 P a next Q ((execOp a.eval o).run P w)) : o.wpIn (WF ro) 0 P a w next Q :=
  ⟨fun _ _ => trivial, by rw [show (WF ro).round = ro from rfl, semAt_of hd]; exact h⟩

theorem stepR_spec {o : Oper} {G : List (Nat × Bool)} {c : List (Bool × Bool)} {r : RS} {a : Act} {w : World} {K : RS → World → Prop} {next : Act → World → Prop}
    (hr : RInv n r a.tmps) (hc : condsOf r.σ G = some c) {rd : (World → Prop) → Prop} (hrd : ∀ p, rd p → p w) (hk : stepR P (TI.of P) n o G c r rd w K)
    (hK : ∀ r' v w', RInv n r' (a.put o.dst v).tmps → K r' w' → next (a.put o.dst v) w') (hwant : Region.wanted o (yielded ops a.tmps) = true ↔ HoldsG r.σ G) :
    if Region.wanted o (yielded ops a.tmps) then o.wpIn (WF ro) 0 P a w next Q else (∀ f, o.about P w a.eval = some f → (WF ro).fn f) ∧ next (a.put o.dst undef) w := by
  obtain ⟨i1, i2, i3⟩ := condsOf_spec hc
  by_cases hh : HoldsG r.σ G
  · rw [if_pos (hwant.2 hh)]
    have hcc := i1.2 hh
    unfold stepR at hk
    split at hk
    · rename_i x y z ho
      obtain ⟨b, hb, hk⟩ := pickR_spec (P := P) hr hh hk
      obtain ⟨r', hr', hk⟩ := putR_spec hr i3 (u := .bool b) (fun _ => rfl) (fun h => absurd hh h) hk
      refine wpIn_WF (fun c h => by rw [ho] at h; cases h) ?_
      simp only [execOp, ho, hb]
      exact hK _ _ _ hr' hk
    · rename_i op hop
      have hev : ∀ x v, evalIn (lookG r G) x = some v → a.eval x = v := evalIn_spec fun t v ht => lookG_spec hr hh (fun x hx => .inl hx) ht
      split at hk
      · rename_i p hp
        obtain ⟨v, hv, hk⟩ := stepP_spec hev hcc hp hk
        obtain ⟨r', hr', hk⟩ := putR_spec hr i3 (u := v) (fun _ => rfl) (fun h => absurd hh h) hk
        refine wpIn_WF (fun c h => by rw [h] at hp; simp [stepP] at hp) ?_
        rw [hv w hrd]
        exact hK _ _ _ hr' hk
      · rename_i hp
        have fin : stepE P (TI.of P) (evalIn (lookG r G)) o.op o.type w (fun v w' => putR n o.dst G v r fun r' => K r' w') → o.wpIn (WF ro) 0 P a w next Q := by
          intro he
          refine wpIn_WF (fun c h => by rw [h] at he; simp [stepE] at he) (stepE_spec hev he fun v w' hv => ?_)
          obtain ⟨r', hr', hk⟩ := putR_spec hr i3 (u := v) (fun _ => rfl) (fun h => absurd hh h) hv
          exact hK _ _ _ hr' hk
        split at hk
        · exact fin hk
        · rcases hk with hk | ⟨v0, hk, hk0⟩
          · exact fin (hk.1 hcc)
          · refine wpIn_WF (fun c h => by have he := hk hcc; rw [h] at he; simp [stepE] at he) (stepE_spec hev (hk hcc) fun v w' hv => ?_)
            obtain ⟨rfl, rfl⟩ := hv
            obtain ⟨r', hr', hk⟩ := putR_spec hr i3 (u := v) (fun _ => rfl) (fun h => absurd hh h) hk0
            exact hK _ _ _ hr' hk
  · have hw : Region.wanted o (yielded ops a.tmps) = false := by rw [← Bool.not_eq_true]; exact fun h => hh (hwant.1 h)
    rw [if_neg (by rw [hw]; simp)]
    refine ⟨fun _ _ => trivial, ?_⟩
    have hncc : ¬ conds c := fun h => hh (i1.1 h)
    have key : ∀ v, putR n o.dst G v r (fun r' => K r' w) → next (a.put o.dst undef) w := by
      intro v hv
      obtain ⟨r', hr', hk⟩ := putR_spec hr i3 (u := undef) (fun h => absurd h hh) (fun _ => rfl) hv
      exact hK _ _ _ hr' hk
    unfold stepR at hk
    split at hk
    · obtain ⟨v, hv⟩ := pickR_K hk; exact key v hv
    · split at hk
      · rename_i hp; obtain ⟨v, hv⟩ := stepP_K hp hk; exact key v hv
      · split at hk
        · exact absurd (show conds [] from trivial) hncc
        · rcases hk with hk | ⟨v0, _, hk0⟩
          · exact key _ (hk.2 hncc)
          · exact key _ hk0

theorem wanted_none {o : Oper} {y : Nat → Option Bool} (h : o.guard = none) : Region.wanted o y = true := by simp [Region.wanted, h]

theorem oneD_spec {o : Oper} {i : Nat} (hi : ops[i]? = some o) {r : RS} {a : Act} {w : World} {K : RS → World → Prop} {next : Act → World → Prop} {rd : (World → Prop) → Prop} (hrd : ∀ p, rd p → p w)
    (hr : RInv n r a.tmps) (hk : oneD P (TI.of P) n ops.toList o r rd w K) (hK : ∀ r' v w', RInv n r' (a.put o.dst v).tmps → K r' w' → next (a.put o.dst v) w') :
    wpOpIn (WF ro) 0 P ops Q i next a w := by
  unfold wpOpIn
  rw [hi]
  unfold oneD at hk
  split at hk
  · rename_i hg
    exact stepR_spec (G := []) (c := []) hr rfl hrd hk hK ⟨fun _ x hx => (by cases hx), fun _ => wanted_none hg⟩
  · rename_i j want hg
    unfold guardR at hk
    split at hk
    · exact hk.elim
    · rename_i s hs
      obtain ⟨ρ, γ, σr⟩ := r
      simp only at hk
      have hs' : (ops[j]?).bind (·.dst) = some s := by simpa using hs
      -- what the guard's slot holds
      have hyield : ∀ (gs : List (Nat × Bool)) (e : Bool) (σ : List (Nat × List (Nat × Bool) × Bool)), findσ s σ = some (gs, e) → (HoldsG σ gs → a.tmps[s]? = some (.bool e)) → (¬ HoldsG σ gs → a.tmps[s]? = some undef) →
          (Region.wanted o (yielded ops a.tmps) = true ↔ HoldsG σ ((s, want) :: gs)) := by
        intro gs e σ hσ h1 h2
        have hy : Region.wanted o (yielded ops a.tmps) = (yielded ops a.tmps j == some want) := by simp [Region.wanted, hg]
        rw [hy]
        have hyv : yielded ops a.tmps j = match a.tmps[s]? with | some (.bool b) => some b | _ => none := by
          unfold yielded; rw [hs']; rfl
        rw [hyv]
        by_cases hh : HoldsG σ gs
        · rw [h1 hh]
          constructor
          · intro he x hx
            have he' : e = want := by simpa using he
            rcases List.mem_cons.1 hx with rfl | hx
            · exact ⟨gs, e, hσ, he'⟩
            · exact hh x hx
          · intro hG
            obtain ⟨gs', e', h3, h4⟩ := hG (s, want) (by simp)
            simp only at h3
            rw [hσ] at h3; cases h3
            simp only at h4
            simp [h4]
        · rw [h2 hh]
          constructor
          · intro he; simp [undef] at he
          · intro hG; exact absurd (fun x hx => hG x (List.mem_cons_of_mem _ hx)) hh
      split at hk
      · rename_i gs e hσ
        obtain ⟨c, hc, hk⟩ := need_elim hk
        obtain ⟨_, h1, h2⟩ := hr.σ _ _ _ hσ
        exact stepR_spec hr hc hrd hk hK (hyield gs e σr hσ h1 h2)
      · rename_i hσ
        have grow : ∀ (gs : List (Nat × Bool)) (e : Bool), DefG σr gs → (HoldsG σr gs → a.tmps[s]? = some (.bool e)) → (¬ HoldsG σr gs → a.tmps[s]? = some undef) → RInv n ⟨ρ, γ, (s, gs, e) :: σr⟩ a.tmps := by
          intro gs e hd h1 h2
          refine ⟨hr.size, hr.ρ, ?_, ?_⟩
          · intro t gs' v hm
            obtain ⟨hd', h3, h4⟩ := hr.γ t gs' v hm
            exact ⟨hd'.cons, fun h => h3 ((HoldsG.cons hσ hd').1 h), fun h => h4 fun h' => h ((HoldsG.cons hσ hd').2 h')⟩
          · intro s' gs' e' hs'
            rw [findσ_cons] at hs'
            split at hs'
            · rename_i he; cases hs'; subst he
              exact ⟨hd.cons, fun h => h1 ((HoldsG.cons hσ hd).1 h), fun h => h2 fun h' => h ((HoldsG.cons hσ hd).2 h')⟩
            · obtain ⟨hd', h3, h4⟩ := hr.σ s' gs' e' hs'
              exact ⟨hd'.cons, fun h => h3 ((HoldsG.cons hσ hd').1 h), fun h => h4 fun h' => h ((HoldsG.cons hσ hd').2 h')⟩
        split at hk
        · rename_i e hl
          obtain ⟨c, hc, hk⟩ := need_elim hk
          have hv := hr.ρ _ _ hl
          have hr' := grow [] e (fun x hx => (by cases hx)) (fun _ => hv) (fun h => absurd (fun x hx => (by cases hx)) h)
          have hf : findσ s ((s, [], e) :: σr) = some ([], e) := by rw [findσ_cons, if_pos rfl]
          exact stepR_spec hr' hc hrd hk hK (hyield [] e _ hf (hr'.σ _ _ _ hf).2.1 (hr'.σ _ _ _ hf).2.2)
        · exact hk.elim
        · split at hk
          · rename_i gs e hγ
            obtain ⟨c, hc, hk⟩ := need_elim hk
            obtain ⟨hd, h1, h2⟩ := hr.γ _ _ _ (findγ_spec hγ)
            have hr' := grow gs e hd h1 h2
            have hf : findσ s ((s, gs, e) :: σr) = some (gs, e) := by rw [findσ_cons, if_pos rfl]
            exact stepR_spec hr' hc hrd hk hK (hyield gs e _ hf (hr'.σ _ _ _ hf).2.1 (hr'.σ _ _ _ hf).2.2)
          · exact hk.elim

/-- Only the slots that are listed have been written; the deferred calls are as they were. -/
def Keeps (ts : List Nat) (a a' : Act) : Prop := a'.defers = a.defers ∧ ∀ t, memN t ts = false → a'.tmps[t]? = a.tmps[t]?
theorem Keeps.refl (ts : List Nat) (a : Act) : Keeps ts a a := ⟨rfl, fun _ _ => rfl⟩
theorem Keeps.trans {ts : List Nat} {a b c : Act} (h : Keeps ts a b) (k : Keeps ts b c) : Keeps ts a c := ⟨k.1.trans h.1, fun t ht => (k.2 t ht).trans (h.2 t ht)⟩
theorem memN_cons {t s : Nat} {l : List Nat} (h : memN t (s :: l) = false) : s ≠ t ∧ memN t l = false := by
  simp only [memN, Bool.or_eq_false_iff] at h
  exact ⟨fun e => by rw [e] at h; simp at h, h.2⟩
theorem memN_append {t : Nat} : ∀ {l m : List Nat}, memN t (l ++ m) = false ↔ memN t l = false ∧ memN t m = false
  | [], m => by simp [memN]
  | s :: l, m => by simp only [List.cons_append, memN, Bool.or_eq_false_iff, memN_append, and_assoc]
theorem Keeps.mono {ts us : List Nat} {a b : Act} (h : Keeps ts a b) (hs : ∀ t, memN t us = false → memN t ts = false) : Keeps us a b := ⟨h.1, fun t ht => h.2 t (hs t ht)⟩
theorem Keeps.put {o : Oper} {l : List Oper} {a : Act} {v : Value} : Keeps (dsts (o :: l)) a (a.put o.dst v) := by
  refine ⟨by cases ho : o.dst <;> simp [Act.put], fun t ht => ?_⟩
  cases ho : o.dst with
  | none => simp [Act.put]
  | some d =>
    rw [dsts, ho] at ht
    obtain ⟨h1, _⟩ := memN_cons ht
    simp only [Act.put, Array.getElem?_setIfInBounds]
    rw [if_neg h1]
theorem dsts_cons {o : Oper} {l : List Oper} {t : Nat} (h : memN t (dsts (o :: l)) = false) : memN t (dsts l) = false := by
  cases ho : o.dst with
  | none => rw [dsts, ho] at h; exact h
  | some d => rw [dsts, ho] at h; exact (memN_cons h).2

theorem opsD_spec : ∀ (l : List Oper) (k : Nat) (_ : ∀ j, l[j]? = ops[k + j]?) (r : RS) (a : Act) (w : World) (K : RS → World → Prop), RInv n r a.tmps → opsD P (TI.of P) n ops.toList l r w K →
    (∀ r' a' w', RInv n r' a'.tmps → Keeps (dsts l) a a' → K r' w' → Q .normal a' w') → wpOpsIn (WF ro) 0 P ops Q (List.range' k l.length) a w
  | [], k, hl, r, a, w, K, hr, hk, hK => by simpa [wpOpsIn] using hK r a w hr (Keeps.refl _ _) hk
  | o :: l, k, hl, r, a, w, K, hr, hk, hK => by
    rw [List.length_cons, List.range'_succ, wpOpsIn_cons]
    refine oneD_spec (by have := hl 0; simpa using this.symm) (fun p hp => hp) hr hk fun r' v w' hr' hk' => ?_
    exact opsD_spec l (k + 1) (fun j => by have := hl (j + 1); simpa [Nat.add_assoc, Nat.add_comm 1 j] using this) r' _ w' K hr' hk' fun r'' a'' w'' h1 h2 h3 => hK r'' a'' w'' h1 (Keeps.put.trans (h2.mono fun t => dsts_cons)) h3
end

/-! ### Orders -/

section
variable {P : Program} {n : Nat} {ops : Array Oper} {Q : Exit → Act → World → Prop} {ro : Option Nat} {S : World → Prop} {nS : Nat → Bool}

/-- Whatever order is picked from here on; S holds behind the operations of which nS asks it. -/
def wpAnyS (ro : Option Nat) (P : Program) (ops : Array Oper) (Q : Exit → Act → World → Prop) (S : World → Prop) (nS : Nat → Bool) : Nat → Array Bool → Act → World → Prop
  | 0, listed, a, w => Region.ready .any ops listed = [] ∧ Q .normal a w
  | fuel + 1, listed, a, w => (Region.ready .any ops listed = [] → Q .normal a w) ∧
    ∀ i ∈ Region.ready .any ops listed, wpOpIn (WF ro) 0 P ops Q i (fun a' w' => (nS i = true → S w → S w') ∧ wpAnyS ro P ops Q S nS fuel (listed.setIfInBounds i true) a' w') a w

theorem wpAnyIn_of_S : ∀ (fuel : Nat) (listed : Array Bool) (a : Act) (w : World), wpAnyS ro P ops Q S nS fuel listed a w → wpAnyIn (WF ro) 0 P .any ops Q fuel listed a w
  | 0, _, _, _, h => h
  | fuel + 1, _, _, _, h => ⟨h.1, fun i hi => wpOpIn_mono (fun a' w' h' => wpAnyIn_of_S fuel _ a' w' h'.2) (h.2 i hi)⟩

theorem noDefer_spec (h : noDefer ops = true) {i : Nat} {o : Oper} (hi : ops[i]? = some o) : ∀ c, o.op ≠ .defer c := by
  intro c hc
  have hm : o ∈ ops.toList := by have : ops.toList[i]? = some o := by simpa using hi
                                 exact List.mem_of_getElem? this
  have := List.all_eq_true.1 h o hm
  rw [hc] at this; cases this

theorem wpOpIn_yields (hnd : noDefer ops = true) {i : Nat} {o : Oper} {v : Value} {a : Act} (hi : ops[i]? = some o) (hy : YieldsIf P ops S o v a) {K : Act → World → Prop} {w : World} (hS : S w) (h : K (a.put o.dst v) w) : wpOpIn (WF ro) 0 P ops Q i K a w := by
  unfold wpOpIn
  rw [hi]
  rcases hy with ⟨hw, hv⟩ | ⟨hw, rfl⟩
  · simp only [hw, if_true]
    refine wpIn_WF (noDefer_spec hnd hi) ?_
    rw [hv w hS]; exact h
  · simp only [hw, Bool.false_eq_true, if_false]
    exact ⟨fun _ _ => trivial, h⟩

theorem wpOpIn_putS (hnd : noDefer ops = true) {j : Nat} {oi oj : Oper} {v : Value} (hj : ops[j]? = some oj) (hap : oi.apart ops oj = true)
    (hsi : ∀ cs b, oi.op ≠ .select cs b) (hsj : ∀ cs b, oj.op ≠ .select cs b) (hQ : ∀ c a w, Q (.panic c) (a.put oi.dst v) w → Q (.panic c) a w) {K : Act → World → Prop} {a : Act} {w : World}
    (hy : YieldsIf P ops S oi v a) (h : wpOpIn (WF ro) 0 P ops Q j K (a.put oi.dst v) w) :
    wpOpIn (WF ro) 0 P ops Q j (fun a' w' => YieldsIf P ops S oi v a' ∧ K (a'.put oi.dst v) w') a w := by
  obtain ⟨h1, h2, h3⟩ := Oper.apart_spec hap
  have keep : ∀ (a : Act), YieldsIf P ops S oi v a → ∀ u, YieldsIf P ops S oi v (a.put oj.dst u) := fun a hy u =>
    hy.of_same (execOp_put oi hsi a oj.dst u h3) (wanted_put oi a oj.dst u h3)
  have hj' := hj
  unfold wpOpIn at *
  simp only [hj] at h ⊢
  rw [wanted_put oj a oi.dst v h1] at h
  split
  · rename_i hw
    simp only [hw, if_true] at h
    have h := h.2
    have hndj := noDefer_spec hnd hj'
    rw [show (WF ro).round = ro from rfl, semAt_of hndj, execOp_put oj hsj a oi.dst v h1] at h
    refine wpIn_WF hndj ?_
    generalize hr : (execOp a.eval oj).run P w = r at *
    cases r with
    | ok x w' =>
      cases x <;> simp only [Oper.uponIn] at h ⊢
      case value u => exact ⟨keep a hy u, by rw [← Act.put_comm a v u h2]; exact h⟩
      case skip => exact ⟨keep a hy _, by rw [← Act.put_comm a v undef h2]; exact h⟩
      case defer d =>
        refine ⟨(show YieldsIf P ops S oi v { a with defers := d :: a.defers } from hy.of_same rfl rfl).of_same (execOp_put oi hsi _ oj.dst undef h3) (wanted_put oi _ oj.dst undef h3), ?_⟩
        rw [← Act.put_comm _ v undef h2, ← Act.put_defers]
        exact h
      case enter f args =>
        refine ⟨h.1, CallsIn.mono h.2 fun e w'' he => ?_⟩
        cases e with
        | returned u => exact ⟨keep a hy u, by rw [← Act.put_comm a v u h2]; exact he⟩
        | panicked c => exact hQ _ _ _ he
        | outgrown => exact he
      case row row args => exact ⟨h.1, RowsIn.mono h.2 fun u w'' he => ⟨keep a hy u, by rw [← Act.put_comm a v u h2]; exact he⟩⟩
      case round l f tmps assign body =>
        refine ⟨h.1, RoundIn.mono h.2 fun e w'' he => ?_⟩
        cases e with
        | returned u => exact ⟨keep a hy u, by rw [← Act.put_comm a v u h2]; exact he⟩
        | panicked c => exact hQ _ _ _ he
        | outgrown => exact he
    | halt x w' =>
      cases x <;> simp only [Oper.uponIn] at h ⊢
      case panic u => exact hQ _ _ _ h
  · rename_i hw
    simp only [hw] at h
    exact ⟨fun _ _ => trivial, keep a hy _, by rw [← Act.put_comm a v undef h2]; exact h.2⟩

theorem wpAnyS_first {Y : World → Prop} (hnd : noDefer ops = true) (hs : Region.noSelect ops = true) {i : Nat} {oi : Oper} {v : Value} (hi : ops[i]? = some oi) (hQ : ∀ c a w, Q (.panic c) (a.put oi.dst v) w → Q (.panic c) a w)
    (hn : ∀ j oj, ops[j]? = some oj → j ≠ i → (∀ e ∈ oj.after, Region.binds .any e = true → e.on ≠ i) → ∀ w w', Y w → (nS j = true → S w → S w') → Y w') :
    ∀ (fuel : Nat) (listed : Array Bool) (a : Act) (w : World),
      (∀ j oj, ops[j]? = some oj → j ≠ i → listed.getD j true = false → (∀ e ∈ oj.after, Region.binds .any e = true → e.on ≠ i) → oi.apart ops oj = true) →
      i ∈ Region.ready .any ops listed → YieldsIf P ops Y oi v a → Y w →
      wpAnyS ro P ops Q S nS fuel (listed.setIfInBounds i true) (a.put oi.dst v) w → wpAnyS ro P ops Q S nS (fuel + 1) listed a w := by
  intro fuel
  induction fuel with
  | zero =>
    intro listed a w _ hr hy hY H
    refine ⟨fun h => (by rw [h] at hr; cases hr), fun j hj => ?_⟩
    by_cases hji : j = i
    · subst hji; exact wpOpIn_yields hnd hi hy hY ⟨fun _ h => h, H⟩
    · have := ready_mono hj hji
      rw [H.1] at this
      cases this
  | succ fuel ih =>
    intro listed a w hfree hr hy hY H
    refine ⟨fun h => (by rw [h] at hr; cases hr), fun j hj => ?_⟩
    by_cases hji : j = i
    · subst hji; exact wpOpIn_yields hnd hi hy hY ⟨fun _ h => h, H⟩
    · have h1 := H.2 j (ready_mono hj hji)
      obtain ⟨hjun, oj, hoj, hall⟩ := mem_ready.1 hj
      have hnot : ∀ e ∈ oj.after, Region.binds .any e = true → e.on ≠ i := fun e he hb heq => by
        have h1 := hall e he hb
        have h0 := (mem_ready.1 hr).1
        rw [heq] at h1
        rcases Nat.lt_or_ge i listed.size with h' | h'
        · simp [h'] at h0 h1; rw [h0] at h1; cases h1
        · simp [Array.getElem?_eq_none h'] at h1
      have h2 := wpOpIn_putS hnd hoj (hfree j oj hoj hji hjun hnot) (fun cs b => Region.noSelect_spec hs i oi cs b hi) (fun cs b => Region.noSelect_spec hs j oj cs b hoj) hQ hy h1
      have hfree' : ∀ k ok, ops[k]? = some ok → k ≠ i → (listed.setIfInBounds j true).getD k true = false →
          (∀ e ∈ ok.after, Region.binds .any e = true → e.on ≠ i) → oi.apart ops ok = true := fun k ok hk hki hun hno => by
        refine hfree k ok hk hki ?_ hno
        by_cases hjk : j = k
        · subst hjk; exact hjun
        · rw [getD_set_ne true hjk] at hun; exact hun
      refine wpOpIn_mono (fun a' w' h3 => ⟨h3.2.1, ih (listed.setIfInBounds j true) a' w' hfree' (ready_mono hr (Ne.symm hji)) h3.1 (hn j oj hoj hji hnot w w' hY h3.2.1) ?_⟩) h2
      rw [Array.setIfInBounds_comm _ _ hji]
      exact h3.2.2
end

section
variable {P : Program} {n : Nat} {ops : Array Oper} {Q : Exit → Act → World → Prop} {ro : Option Nat} {S : World → Prop}

theorem heldR_spec {o : Oper} {G : List (Nat × Bool)} {c : List (Bool × Bool)} {r : RS} {a : Act} {K : RS → Prop} {Y : World → Prop}
    (hr : RInv n r a.tmps) (hc : condsOf r.σ G = some c) {rd : (World → Prop) → Prop} (hrd : ∀ w, Y w → ∀ p, rd p → p w) (hk : heldR P (TI.of P) n o G c r rd K)
    (hwant : Region.wanted o (yielded ops a.tmps) = true ↔ HoldsG r.σ G) : ∃ v r', YieldsIf P ops Y o v a ∧ RInv n r' (a.put o.dst v).tmps ∧ K r' := by
  obtain ⟨i1, i2, i3⟩ := condsOf_spec hc
  by_cases hh : HoldsG r.σ G
  · have hcc := i1.2 hh
    unfold heldR at hk
    split at hk
    · rename_i x y z ho
      obtain ⟨b, hb, hk⟩ := pickR_spec (P := P) hr hh hk
      obtain ⟨r', hr', hk⟩ := putR_spec hr i3 (u := .bool b) (fun _ => rfl) (fun h => absurd hh h) hk
      refine ⟨.bool b, r', .inl ⟨hwant.2 hh, fun w _ => ?_⟩, hr', hk⟩
      simp only [execOp, ho, hb]; rfl
    · have hev : ∀ x v, evalIn (lookG r G) x = some v → a.eval x = v := evalIn_spec fun t v ht => lookG_spec hr hh (fun x hx => .inl hx) ht
      split at hk
      · rename_i p hp
        obtain ⟨v, hv, hk⟩ := stepP_spec hev hcc hp hk
        obtain ⟨r', hr', hk⟩ := putR_spec hr i3 (u := v) (fun _ => rfl) (fun h => absurd hh h) hk
        exact ⟨v, r', .inl ⟨hwant.2 hh, fun w hw => hv w (hrd w hw)⟩, hr', hk⟩
      · exact hk.elim
  · have hw : Region.wanted o (yielded ops a.tmps) = false := by rw [← Bool.not_eq_true]; exact fun h => hh (hwant.1 h)
    have key : ∀ v, putR n o.dst G v r K → ∃ v r', YieldsIf P ops Y o v a ∧ RInv n r' (a.put o.dst v).tmps ∧ K r' := by
      intro v hv
      obtain ⟨r', hr', hk⟩ := putR_spec hr i3 (u := undef) (fun h => absurd h hh) (fun _ => rfl) hv
      exact ⟨undef, r', .inr ⟨hw, rfl⟩, hr', hk⟩
    unfold heldR at hk
    split at hk
    · obtain ⟨v, hv⟩ := pickR_K hk; exact key v hv
    · split at hk
      · rename_i hp; obtain ⟨v, hv⟩ := stepP_K hp hk; exact key v hv
      · exact hk.elim

/-- A guard, looked at: the region's state behind it, and what it says. -/
theorem guardR_spec {o : Oper} {j : Nat} {want : Bool} (hg : o.guard = some (j, want)) {r : RS} {a : Act} (hr : RInv n r a.tmps) {K : List (Nat × Bool) → RS → Prop} (hk : guardR ops.toList j want r K) :
    ∃ G r', RInv n r' a.tmps ∧ K G r' ∧ (Region.wanted o (yielded ops a.tmps) = true ↔ HoldsG r'.σ G) := by
    unfold guardR at hk
    split at hk
    · exact hk.elim
    · rename_i s hs
      obtain ⟨ρ, γ, σr⟩ := r
      simp only at hk
      have hs' : (ops[j]?).bind (·.dst) = some s := by simpa using hs
      have hyield : ∀ (gs : List (Nat × Bool)) (e : Bool) (σ : List (Nat × List (Nat × Bool) × Bool)), findσ s σ = some (gs, e) → (HoldsG σ gs → a.tmps[s]? = some (.bool e)) → (¬ HoldsG σ gs → a.tmps[s]? = some undef) →
          (Region.wanted o (yielded ops a.tmps) = true ↔ HoldsG σ ((s, want) :: gs)) := by
        intro gs e σ hσ h1 h2
        have hy : Region.wanted o (yielded ops a.tmps) = (yielded ops a.tmps j == some want) := by simp [Region.wanted, hg]
        rw [hy]
        have hyv : yielded ops a.tmps j = match a.tmps[s]? with | some (.bool b) => some b | _ => none := by
          unfold yielded; rw [hs']; rfl
        rw [hyv]
        by_cases hh : HoldsG σ gs
        · rw [h1 hh]
          constructor
          · intro he x hx
            have he' : e = want := by simpa using he
            rcases List.mem_cons.1 hx with rfl | hx
            · exact ⟨gs, e, hσ, he'⟩
            · exact hh x hx
          · intro hG
            obtain ⟨gs', e', h3, h4⟩ := hG (s, want) (by simp)
            simp only at h3
            rw [hσ] at h3; cases h3
            simp only at h4
            simp [h4]
        · rw [h2 hh]
          constructor
          · intro he; simp [undef] at he
          · intro hG; exact absurd (fun x hx => hG x (List.mem_cons_of_mem _ hx)) hh
      split at hk
      · rename_i gs e hσ
        obtain ⟨_, h1, h2⟩ := hr.σ _ _ _ hσ
        exact ⟨_, _, hr, hk, hyield gs e σr hσ h1 h2⟩
      · rename_i hσ
        have grow : ∀ (gs : List (Nat × Bool)) (e : Bool), DefG σr gs → (HoldsG σr gs → a.tmps[s]? = some (.bool e)) → (¬ HoldsG σr gs → a.tmps[s]? = some undef) → RInv n ⟨ρ, γ, (s, gs, e) :: σr⟩ a.tmps := by
          intro gs e hd h1 h2
          refine ⟨hr.size, hr.ρ, ?_, ?_⟩
          · intro t gs' v hm
            obtain ⟨hd', h3, h4⟩ := hr.γ t gs' v hm
            exact ⟨hd'.cons, fun h => h3 ((HoldsG.cons hσ hd').1 h), fun h => h4 fun h' => h ((HoldsG.cons hσ hd').2 h')⟩
          · intro s' gs' e' hs'
            rw [findσ_cons] at hs'
            split at hs'
            · rename_i he; cases hs'; subst he
              exact ⟨hd.cons, fun h => h1 ((HoldsG.cons hσ hd).1 h), fun h => h2 fun h' => h ((HoldsG.cons hσ hd).2 h')⟩
            · obtain ⟨hd', h3, h4⟩ := hr.σ s' gs' e' hs'
              exact ⟨hd'.cons, fun h => h3 ((HoldsG.cons hσ hd').1 h), fun h => h4 fun h' => h ((HoldsG.cons hσ hd').2 h')⟩
        split at hk
        · rename_i e hl
          have hv := hr.ρ _ _ hl
          have hr' := grow [] e (fun x hx => (by cases hx)) (fun _ => hv) (fun h => absurd (fun x hx => (by cases hx)) h)
          have hf : findσ s ((s, [], e) :: σr) = some ([], e) := by rw [findσ_cons, if_pos rfl]
          exact ⟨_, _, hr', hk, hyield [] e _ hf (hr'.σ _ _ _ hf).2.1 (hr'.σ _ _ _ hf).2.2⟩
        · exact hk.elim
        · split at hk
          · rename_i gs e hγ
            obtain ⟨hd, h1, h2⟩ := hr.γ _ _ _ (findγ_spec hγ)
            have hr' := grow gs e hd h1 h2
            have hf : findσ s ((s, gs, e) :: σr) = some (gs, e) := by rw [findσ_cons, if_pos rfl]
            exact ⟨_, _, hr', hk, hyield gs e _ hf (hr'.σ _ _ _ hf).2.1 (hr'.σ _ _ _ hf).2.2⟩
          · exact hk.elim

theorem heldD_spec {o : Oper} {r : RS} {a : Act} {K : RS → Prop} {Y : World → Prop} {rd : (World → Prop) → Prop} (hrd : ∀ w, Y w → ∀ p, rd p → p w) (hr : RInv n r a.tmps) (hk : heldD P (TI.of P) n ops.toList o r rd K) :
    ∃ v r', YieldsIf P ops Y o v a ∧ RInv n r' (a.put o.dst v).tmps ∧ K r' := by
  unfold heldD at hk
  split at hk
  · rename_i hg
    exact heldR_spec (G := []) (c := []) hr rfl hrd hk ⟨fun _ x hx => (by cases hx), fun _ => wanted_none hg⟩
  · rename_i j want hg
    obtain ⟨G, r', hr', hk, hw⟩ := guardR_spec hg hr hk
    obtain ⟨c, hc, hk⟩ := need_elim hk
    exact heldR_spec hr' hc hrd hk hw

/-- A held operation that is no load looks at no world. -/
theorem heldD_any {o : Oper} (hl : isLoad o.op = false) {r : RS} {K : RS → Prop} {rd rd' : (World → Prop) → Prop} {T : Nat → TI} {L : List Oper} (hk : heldD P T n L o r rd K) : heldD P T n L o r rd' K := by
  have key : ∀ (f : Operand → Option Value) (c : List (Bool × Bool)) (K : Value → Prop), stepP P T f c o.op rd K = stepP P T f c o.op rd' K := by
    intro f c K
    cases ho : o.op <;> first | rfl | (rw [ho] at hl; cases hl)
  have key2 : ∀ G c r, heldR P T n o G c r rd K = heldR P T n o G c r rd' K := by
    intro G c r
    unfold heldR
    split
    · rfl
    · rw [key]
  unfold heldD at *
  simpa only [key2] using hk

theorem hasEdge_spec {i : Nat} : ∀ {l : List Edge}, hasEdge i l = true → ∃ e ∈ l, Region.binds .any e = true ∧ e.on = i
  | [], h => by cases h
  | e :: l, h => by
    simp only [hasEdge, Bool.or_eq_true, Bool.and_eq_true] at h
    rcases h with ⟨h1, h2⟩ | h
    · exact ⟨e, by simp, h2, Nat.eq_of_beq_eq_true h1⟩
    · obtain ⟨e', h1, h2⟩ := hasEdge_spec h; exact ⟨e', List.mem_cons_of_mem _ h1, h2⟩
theorem needS_spec {o x : Oper} (hx : isLoad x.op = true) : ∀ {l : List Oper} {k i : Nat}, l[i]? = some x → hasEdge (k + i) o.after.toList = false → needS o k l = true
  | [], _, _, h, _ => by simp at h
  | y :: l, k, 0, h, he => by
    simp at h; subst h
    rw [Nat.add_zero] at he
    rw [needS, hx, he]
    rfl
  | y :: l, k, i + 1, h, he => by
    rw [needS, needS_spec hx (l := l) (k := k + 1) (i := i) (by simpa using h) (by rwa [show k + 1 + i = k + (i + 1) by omega])]
    simp

def nSof (ops : Array Oper) (j : Nat) : Bool := (ops[j]?).any fun o => needS o 0 ops.toList

theorem flagOk_spec {i : Nat} {s : Bool} (h : flagOk ops i s = true) (hn : nSof ops i = true) : s = true := by
  unfold flagOk at h; unfold nSof at hn
  rw [hn] at h; simpa using h

theorem effD_spec (hnd : noDefer ops = true) {i : Nat} {o : Oper} (ho : ops[i]? = some o) {s : Bool} {r : RS} {a : Act} {w : World} {K : RS → World → Prop} {next : Act → World → Prop} (hf : flagOk ops i s = true) (hr : RInv n r a.tmps) (hk : effD P (TI.of P) n ops.toList S i s r w K)
    (hK : ∀ r' v w', RInv n r' (a.put o.dst v).tmps → (s = true → S w') → K r' w' → next (a.put o.dst v) w') :
    wpOpIn (WF ro) 0 P ops Q i (fun a' w' => (nSof ops i = true → S w → S w') ∧ next a' w') a w := by
  obtain ⟨o', ho', hk⟩ := need_elim hk
  have e : o' = o := by simp [ho] at ho'; exact ho'.symm
  subst e
  refine oneD_spec ho (fun p hp => hp) hr hk fun r' v w' hr' hk' => ?_
  cases s with
  | true => exact ⟨fun _ _ => hk'.1, hK r' v w' hr' (fun _ => hk'.1) hk'.2⟩
  | false => exact ⟨fun h => (by have := flagOk_spec hf h; cases this), hK r' v w' hr' (fun h => by cases h) hk'⟩

theorem treeD_spec (hnd : noDefer ops = true) (hns : Region.noSelect ops = true) (hQ : ∀ c a w a', Q (.panic c) a w → Q (.panic c) a' w) {K : RS → World → Prop} {a0 : Act} (hK : ∀ r' a' w', RInv n r' a'.tmps → Keeps (dsts ops.toList) a0 a' → K r' w' → Q .normal a' w') :
    ∀ (t : OT) (kn : Bool) (listed : Array Bool) (fuel : Nat) (r : RS) (a : Act) (w : World), t.depth ≤ fuel → t.ok ops listed = true → RInv n r a.tmps → Keeps (dsts ops.toList) a0 a → (kn = true → S w) → treeD P (TI.of P) n ops.toList S t kn r w K →
      wpAnyS ro P ops Q S (nSof ops) fuel listed a w := by
  have hput : ∀ {i : Nat} {o : Oper} {a : Act} {v : Value}, ops[i]? = some o → Keeps (dsts ops.toList) a (a.put o.dst v) := by
    intro i o a v hi
    refine ⟨by cases ho : o.dst <;> simp [Act.put], fun t ht => ?_⟩
    cases ho : o.dst with
    | none => simp [Act.put]
    | some d =>
      simp only [Act.put, Array.getElem?_setIfInBounds]
      rw [if_neg]
      rintro rfl
      have hm : o ∈ ops.toList := List.mem_of_getElem? (i := i) (by simpa using hi)
      have : ∀ l : List Oper, o ∈ l → memN d (dsts l) = true := by
        intro l
        induction l with
        | nil => intro h; cases h
        | cons x l ih =>
          intro h
          rcases List.mem_cons.1 h with rfl | h
          · rw [dsts, ho]; simp [memN]
          · have := ih h
            cases hx : x.dst with
            | none => rw [dsts, hx]; exact this
            | some e => rw [dsts, hx]; simp [memN, this]
      rw [this _ hm] at ht; cases ht
  intro t
  induction t with
  | nil =>
    intro kn listed fuel r a w _ hok hr hk hS ht
    have h0 : Region.ready .any ops listed = [] := by simpa [OT.ok] using hok
    cases fuel with
    | zero => exact ⟨h0, hK r a w hr hk ht⟩
    | succ fuel => exact ⟨fun _ => hK r a w hr hk ht, fun i hi => by rw [h0] at hi; cases hi⟩
  | held i t ih =>
    intro kn listed fuel r a w hd hok hr hk hS ht
    simp only [OT.depth] at hd
    obtain ⟨fuel, rfl⟩ : ∃ m, fuel = m + 1 := ⟨fuel - 1, by omega⟩
    simp only [OT.ok, Bool.and_eq_true] at hok
    obtain ⟨⟨h1, h2⟩, h4⟩ := hok
    simp only [treeD_nil, treeD_held, treeD_one, treeD_two] at ht
    obtain ⟨o, ho, ht⟩ := need_elim ht
    have ho' : ops[i]? = some o := by simpa using ho
    have h1' : i ∈ Region.ready .any ops listed := by simpa using h1
    cases hl : isLoad o.op with
    | true =>
      rw [hl] at ht
      cases hkn : kn with
      | false => rw [hkn] at ht; exact ht.elim
      | true =>
        rw [hkn] at ht
        have hSw := hS hkn
        simp only [Bool.not_true, Bool.and_false, cond_false] at ht
        obtain ⟨v, r', hy, hr', ht⟩ := heldD_spec (Y := S) (fun w hw p hp => hp w hw) hr ht
        refine wpAnyS_first (Y := S) hnd hns ho' (fun c a w h => hQ c _ w a h) ?_ fuel listed a w (Region.free_spec ho' h2) h1' hy hSw ?_
        · intro j oj hoj hji hno w w' hw hw'
          refine hw' ?_ hw
          unfold nSof
          rw [hoj]
          refine needS_spec hl (i := i) (by simpa using ho') ?_
          rw [Nat.zero_add, ← Bool.not_eq_true]
          intro he
          obtain ⟨e, hm, hbd, hon⟩ := hasEdge_spec he
          exact hno e (by simpa using hm) hbd hon
        · exact ih true _ fuel r' _ w (by omega) h4 hr' (hk.trans (hput ho')) (fun _ => hSw) ht
    | false =>
      rw [hl] at ht
      simp only [Bool.false_and, cond_false] at ht
      obtain ⟨v, r', hy, hr', ht⟩ := heldD_spec (Y := fun _ => True) (rd := fun p => ∀ w, p w) (fun w _ p hp => hp w) hr (heldD_any hl ht)
      exact wpAnyS_first (Y := fun _ => True) hnd hns ho' (fun c a w h => hQ c _ w a h) (fun _ _ _ _ _ _ _ _ _ => trivial) fuel listed a w (Region.free_spec ho' h2) h1' hy trivial
        (ih kn _ fuel r' _ w (by omega) h4 hr' (hk.trans (hput ho')) hS ht)
  | one i s t ih =>
    intro kn listed fuel r a w hd hok hr hk hS ht
    simp only [OT.depth] at hd
    obtain ⟨fuel, rfl⟩ : ∃ m, fuel = m + 1 := ⟨fuel - 1, by omega⟩
    simp only [OT.ok, Bool.and_eq_true] at hok
    obtain ⟨⟨h1, h2⟩, h3⟩ := hok
    have h1' : Region.ready .any ops listed = [i] := by simpa using h1
    refine ⟨fun h => (by rw [h1'] at h; cases h), fun j hj => ?_⟩
    rw [h1'] at hj
    obtain rfl : j = i := by simpa using hj
    obtain ⟨o, ho, _⟩ := need_elim ht
    have ho' : ops[j]? = some o := by simpa using ho
    exact effD_spec hnd ho' h2 hr ht fun r' v w' hr' hS' hk' => ih s _ fuel r' _ w' (by omega) h3 hr' (hk.trans (hput ho')) hS' hk'
  | two i s t j s' u iht ihu =>
    intro kn listed fuel r a w hd hok hr hk hS ht
    simp only [OT.depth] at hd
    obtain ⟨fuel, rfl⟩ : ∃ m, fuel = m + 1 := ⟨fuel - 1, by omega⟩
    simp only [OT.ok, Bool.and_eq_true] at hok
    obtain ⟨⟨⟨⟨h1, h2⟩, h2'⟩, h3⟩, h4⟩ := hok
    have h1' : Region.ready .any ops listed = [i, j] := by simpa using h1
    refine ⟨fun h => (by rw [h1'] at h; cases h), fun x hx => ?_⟩
    rw [h1'] at hx
    rcases List.mem_cons.1 hx with rfl | hx
    · obtain ⟨o, ho, _⟩ := need_elim ht.1
      have ho' : ops[x]? = some o := by simpa using ho
      exact effD_spec hnd ho' h2 hr ht.1 fun r' v w' hr' hS' hk' => iht s _ fuel r' _ w' (by omega) h3 hr' (hk.trans (hput ho')) hS' hk'
    · obtain rfl : x = j := by simpa using hx
      obtain ⟨o, ho, _⟩ := need_elim ht.2
      have ho' : ops[x]? = some o := by simpa using ho
      exact effD_spec hnd ho' h2' hr ht.2 fun r' v w' hr' hS' hk' => ihu s' _ fuel r' _ w' (by omega) h4 hr' (hk.trans (hput ho')) hS' hk'

theorem drawD_spec {id : Nat} {Q : Exit → Act → World → Prop} {r : RS} {a : Act} {w : World} {K : RS → World → Prop} (hr : RInv n r a.tmps) (h : drawD P (TI.of P) n ops r w K)
    (hK : ∀ r' a' w', RInv n r' a'.tmps → Keeps (dsts ops.toList) a a' → K r' w' → Q .normal a' w') : (Code.region id ops true).wpIn (WF ro) 0 P Q a w := by
  obtain ⟨t, S, hm, hv, hS, ht⟩ := h
  simp only [OT.valid, Bool.and_eq_true] at hv
  obtain ⟨⟨⟨h1, h2⟩, h3⟩, h4⟩ := hv
  refine wpIn_mono (Q := fun e a w => match e with | .normal => Q .normal a w | _ => False) (wpIn_region_any hm ?_) ?_
  · exact wpAnyIn_of_S (S := S) (nS := nSof ops) _ _ _ _ (treeD_spec (ro := ro) (Q := fun e a w => match e with | .normal => Q .normal a w | _ => False) (S := S) h2 h1 (fun _ _ _ _ h => h) (a0 := a) (fun r' a' w' i1 i2 i3 => hK r' a' w' i1 i2 i3) t true _ _ r a w.drew (Nat.le_of_ble_eq_true h3) h4 hr (Keeps.refl _ _) (fun _ => hS) ht)
  · intro e a w h
    cases e <;> first | exact h | exact h.elim
end

/-- The environment's word on the frame. -/
structure EInv (n : Nat) (ρ : Slots) (tmps : Array Value) : Prop where
  size : tmps.size = n
  ρ : ∀ t v, look ρ t = some v → tmps[t]? = some v

theorem EInv.rinv {n : Nat} {ρ : Slots} {tmps : Array Value} (h : EInv n ρ tmps) : RInv n ⟨ρ, [], []⟩ tmps :=
  ⟨h.size, h.ρ, fun t gs v hm => (by cases hm), fun s gs e hs => (by cases hs)⟩
theorem RInv.einv {n : Nat} {r : RS} {tmps : Array Value} (h : RInv n r tmps) : EInv n r.ρ tmps := ⟨h.size, h.ρ⟩

/-- The marks of ranges over functions, as deferred calls. -/
def DI (m : List Nat) (a : Act) : Prop := a.defers = m.map fun D => ({ target := .collected D, args := #[] } : Deferred)
/-- Only the slots that are listed have been written. -/
def KeepsT (ts : List Nat) (a a' : Act) : Prop := ∀ t, memN t ts = false → a'.tmps[t]? = a.tmps[t]?
theorem KeepsT.refl (ts : List Nat) (a : Act) : KeepsT ts a a := fun _ _ => rfl
theorem KeepsT.trans {ts : List Nat} {a b c : Act} (h : KeepsT ts a b) (k : KeepsT ts b c) : KeepsT ts a c := fun t ht => (k t ht).trans (h t ht)
theorem KeepsT.mono {ts us : List Nat} {a b : Act} (h : KeepsT ts a b) (hs : ∀ t, memN t us = false → memN t ts = false) : KeepsT us a b := fun t ht => h t (hs t ht)
/-- den's post, as the calculus has it: only what the code writes has been written. -/
def lift (n : Nat) (ts : List Nat) (rf : Bool) (a0 : Act) (m : List Nat) (Q : Exit → Env → World → Prop) : Exit → Act → World → Prop :=
  fun e a w => ∃ ρ m', EInv n ρ a.tmps ∧ KeepsT ts a0 a ∧ DI m' a ∧ (rf = false → m' = m) ∧ Q e ⟨ρ, m'⟩ w

theorem memN_iff {t : Nat} : ∀ {l : List Nat}, memN t l = true ↔ t ∈ l
  | [] => by simp [memN]
  | s :: l => by
    simp only [memN, Bool.or_eq_true, memN_iff (l := l), List.mem_cons]
    constructor
    · rintro (h | h)
      · exact .inl (Nat.eq_of_beq_eq_true h).symm
      · exact .inr h
    · rintro (rfl | h)
      · exact .inl (by simp)
      · exact .inr h
theorem okMs_spec {ρ : Slots} {ms : List Nat} : ∀ {l : List Nat}, okMs ρ ms l = true → ∀ t ∈ l, t ∈ ms ∨ look ρ t = none
  | [], _, t, ht => by cases ht
  | s :: l, h, t, ht => by
    simp only [okMs, Bool.and_eq_true, Bool.or_eq_true] at h
    rcases List.mem_cons.1 ht with rfl | ht
    · exact h.1.imp memN_iff.1 (by simp)
    · exact okMs_spec h.2 t ht
theorem look_bindS {t : Nat} {v : Value} : ∀ {ts : List Nat} {vs : List Value} {ρ : Slots}, vs.length = ts.length → look (bindS ts vs ρ) t = some v → (∃ j : Nat, ts[j]? = some t ∧ vs[j]? = some v) ∨ (look ρ t = some v ∧ t ∉ ts)
  | [], _, _, _, h => .inr ⟨by simpa [bindS] using h, by simp⟩
  | d :: ts, [], _, hl, h => by simp at hl
  | d :: ts, u :: vs, ρ, hl, h => by
    simp only [bindS] at h
    rw [look_cons] at h
    split at h
    · rename_i e; subst e; exact .inl ⟨0, rfl, h⟩
    · rename_i e
      rcases look_bindS (by simpa using hl) h with ⟨j, h1, h2⟩ | ⟨h, h'⟩
      · exact .inl ⟨j + 1, by simpa using h1, by simpa using h2⟩
      · exact .inr ⟨h, by simp only [List.mem_cons, not_or]; exact ⟨fun e' => e e'.symm, h'⟩⟩

theorem looks_spec {ρ : Slots} : ∀ {ts : List Nat} {vs : List Value}, looks ρ ts = some vs → vs.length = ts.length ∧ ∀ (j t : Nat) (v : Value), (ts : List Nat)[j]? = some t → (vs : List Value)[j]? = some v → look ρ t = some v
  | [], vs, h => by simp [looks] at h; subst h; simp
  | t :: ts, vs, h => by
    simp only [looks] at h
    split at h
    · rename_i v us h1 h2
      cases h
      obtain ⟨i1, i2⟩ := looks_spec h2
      refine ⟨by simp [i1], fun j t' v' hj hv => ?_⟩
      cases j with
      | zero => simp at hj hv; subst hj; subst hv; exact h1
      | succ j => exact i2 j t' v' (by simpa using hj) (by simpa using hv)
    · cases h

theorem stepR_scope {b : Frame} {a : Act} {k : List Item} {cs : List Frame} {w : World} {P : Program} {c : Code} : step P (lone (b.atR a (.code (.scope c) :: k)) cs w) = .next (lone (b.atR a (.code c :: .inScope c :: k)) cs w) :=
  step_lone_go (by simp [stepG, stepG.exec, Frame.atR])
theorem stepR_inScope {b : Frame} {a : Act} {k : List Item} {cs : List Frame} {w : World} {P : Program} {c : Code} : step P (lone (b.atR a (.inScope c :: k)) cs w) = .next (lone (b.atR a k) cs w) :=
  step_lone_go (by simp [stepG, stepG.exec, Frame.atR])

/-- A scope that no goto leaves into. -/
theorem wpIn_scope {F : Fence} {n : Nat} {P : Program} {Q : Exit → Act → World → Prop} {a : Act} {w : World} {c : Code} (h : c.wpIn F n P (fun e a w => match e with | .goto _ => False | e => Q e a w) a w) : (Code.scope c).wpIn F n P Q a w := by
  intro b k cs hro hb hr
  have h0 : (lone (b.atR a (.code (.scope c) :: k)) cs w).fenced P F := fenced_calm hb hr rfl
  obtain ⟨e, a₁, w₁, hq, harr⟩ := h b (.inScope c :: k) cs hro hb hr
  cases e with
  | normal => exact ⟨.normal, a₁, w₁, hq, .head h0 stepR_scope (StepsIn.trans harr (.one (fenced_calm hb hr rfl) stepR_inScope))⟩
  | exit id =>
    refine ⟨.exit id, a₁, w₁, hq, fun k' hk => .head h0 stepR_scope (harr.1 k' (by simp [exitTo, hk])), fun hr' hk => ?_⟩
    obtain ⟨k₁, h1, h2⟩ := harr.2 hr' (by simp [exitTo, hk])
    exact ⟨k₁, h1, .head h0 stepR_scope h2⟩
  | goto l => exact hq.elim
  | ret => exact ⟨_, a₁, w₁, hq, .of_steps (.one h0 stepR_scope) harr⟩
  | panic ch => exact ⟨_, a₁, w₁, hq, .of_steps (.one h0 stepR_scope) harr⟩
  | outgrown => exact ⟨_, a₁, w₁, hq, .of_steps (.one h0 stepR_scope) harr⟩

/-- What den never hands on: a jump by goto. -/
def NoGoto (Q : Exit → Env → World → Prop) : Prop := ∀ l ρ w, ¬ Q (.goto l) ρ w

/-- Ways that are joined: what is known of the slots behind them. -/
theorem rejoin {n : Nat} {Q : Exit → Env → World → Prop} {a a'' : Act} {w'' : World} {m ms M : List Nat} {rf : Bool} {ρ ρ'' : Slots} {vs : List Value} (g : ∀ l, Exit.normal ≠ .goto l) (hi : EInv n ρ a.tmps) (hok : okMs ρ ms M = true)
    (hl : vs.length = ms.length) (hvs : looks ρ'' ms = some vs) (j1 : EInv n ρ'' a''.tmps) (j2 : KeepsT M a a'') (jd : DI m a'') (hq : Q .normal ⟨bindS ms vs ρ, m⟩ w'') :
    (∀ l, Exit.normal ≠ .goto l) ∧ lift n M rf a m Q .normal a'' w'' := by
  obtain ⟨hl', hlk⟩ := looks_spec hvs
  refine ⟨g, bindS ms vs ρ, m, ⟨j1.size, fun t v ht => ?_⟩, j2, jd, fun _ => rfl, hq⟩
  rcases look_bindS hl ht with ⟨j, k1, k2⟩ | ⟨ht, hnm⟩
  · exact j1.ρ _ _ (hlk j t v k1 k2)
  · have k2 : memN t M = false := by
      rw [← Bool.not_eq_true]
      intro hm
      rcases okMs_spec hok t (memN_iff.1 hm) with h | h
      · exact hnm h
      · rw [h] at ht; cases ht
    rw [j2 t k2]
    exact hi.ρ _ _ ht

/-- The frame's slots at a loop's head. -/
theorem loop_env {n : Nat} {ρ : Slots} {ms M : List Nat} {a a' : Act} {vs : List Value} (hi : EInv n ρ a.tmps) (hok : okMs ρ ms M = true) (hms : ∀ t ∈ ms, t < n) (hsz : a'.tmps.size = n) (hk : KeepsT M a a') (hl : vs.length = ms.length)
    (hv : vs = ms.map fun t => a'.tmps.getD t undef) : EInv n (bindS ms vs ρ) a'.tmps := by
  refine ⟨hsz, fun t v ht => ?_⟩
  rcases look_bindS hl ht with ⟨j, h1, h2⟩ | ⟨ht, hnm⟩
  · have hlt : t < a'.tmps.size := by rw [hsz]; exact hms t (List.mem_of_getElem? h1)
    rw [hv] at h2
    simp only [List.getElem?_map, h1, Option.map_some, Option.some.injEq] at h2
    rw [← h2]
    simp [Array.getD, hlt]
  · have h2 : memN t M = false := by
      rw [← Bool.not_eq_true]
      intro hm
      rcases okMs_spec hok t (memN_iff.1 hm) with h | h
      · exact hnm h
      · rw [h] at ht; cases ht
    rw [hk t h2]
    exact hi.ρ _ _ ht
theorem looks_vals {ms : List Nat} {a' : Act} {vs : List Value} (hl : vs.length = ms.length) (hv : ∀ (j t : Nat) (v : Value), ms[j]? = some t → vs[j]? = some v → a'.tmps[t]? = some v) : vs = ms.map fun t => a'.tmps.getD t undef := by
  apply List.ext_getElem?
  intro j
  rcases Nat.lt_or_ge j ms.length with hj | hj
  · have h1 : ms[j]? = some ms[j] := List.getElem?_eq_getElem hj
    have h2 : vs[j]? = some vs[j] := List.getElem?_eq_getElem (by omega)
    have h3 := hv j _ _ h1 h2
    have h4 : a'.tmps.getD ms[j] undef = vs[j] := by
      obtain ⟨hlt, he⟩ := Array.getElem?_eq_some_iff.1 h3
      simp [Array.getD, hlt, he]
    rw [h2]
    show _ = (ms.map fun t => a'.tmps.getD t undef)[j]?
    rw [List.getElem?_map, h1, Option.map_some, h4]
  · rw [List.getElem?_eq_none (by omega), List.getElem?_eq_none (by simp; omega)]
theorem looks_lt {n : Nat} {ρ : Slots} {ms : List Nat} {vs : List Value} {a : Act} (hi : EInv n ρ a.tmps) (hv : looks ρ ms = some vs) : ∀ t ∈ ms, t < n := by
  intro t ht
  obtain ⟨j, hj, he⟩ := List.getElem_of_mem ht
  obtain ⟨hl, hlk⟩ := looks_spec hv
  have h1 : ms[j]? = some t := by rw [List.getElem?_eq_getElem hj, he]
  have h2 : vs[j]? = some vs[j] := List.getElem?_eq_getElem (by omega)
  have := hi.ρ _ _ (hlk j t _ h1 h2)
  obtain ⟨h3, _⟩ := Array.getElem?_eq_some_iff.1 this
  rw [← hi.size]; exact h3

theorem DI.keeps {m : List Nat} {ts : List Nat} {a a' : Act} (h : DI m a) (k : Keeps ts a a') : DI m a' := k.1.trans h
theorem Keeps.t {ts : List Nat} {a a' : Act} (k : Keeps ts a a') : KeepsT ts a a' := k.2

theorem run_enterLoop_in {P : Program} {w : World} {l₀ : Nat} {r₀ : Loop} (h : w.heap[l₀]? = some (.loop r₀)) (fn : FuncId) (tmps : Array Value) (ps : Array Tmp) (assign body : Code) :
    (Instr.enterLoop fn tmps ps assign body (some l₀)).run P w =
      .ok (w.heap.size, []) (w.alloc (.loop { state := .ready, pending := none, fn, tmps, params := ps, assign, body, defers := r₀.defers })) := by
  unfold Instr.enterLoop
  simp only [Sem.run_bind, run_getLoop h, run_newObj_alloc, Result.andThen, Sem.run_pure]

/-- The pending jump, walked. -/
theorem afterD_spec {P : Program} {ro : Option Nat} {l : Nat} {m m0 : List Nat} {Q : Exit → Env → World → Prop} {ρ : Slots} {n : Nat} {ts : List Nat} {rf : Bool} {a a0 : Act} {w3 : World} (hi : EInv n ρ a.tmps) (hk : KeepsT ts a0 a) (hd : DI m a) (hrf : rf = false → m = m0)
    (h : afterD l m (fun e m' w' => Q e ⟨ρ, m'⟩ w') w3) : ∃ jump w4, (Instr.endLoop l).run P w3 = .ok jump w4 ∧
      (match jump with
       | none => (fun e a' w' => (∀ l, e ≠ .goto l) ∧ lift n ts rf a0 m0 Q e a' w') Exit.normal a w4
       | some c => c.wpIn (WF ro) 0 P (fun e a' w' => (∀ l, e ≠ .goto l) ∧ lift n ts rf a0 m0 Q e a' w') a w4) := by
  obtain ⟨r3, h1, h2, h3⟩ := h
  refine ⟨_, _, run_endLoop h1 h2, ?_⟩
  have h3 := h3 _ rfl
  cases hp : r3.pending with
  | none => rw [hp] at h3; exact ⟨by simp, ρ, m, hi, hk, hd, hrf, h3⟩
  | some c =>
    rw [hp] at h3
    cases c with
    | ret => exact wpIn_ret ⟨by simp, ρ, m, hi, hk, hd, hrf, h3⟩
    | exit id => exact wpIn_exit ⟨by simp, ρ, m, hi, hk, hd, hrf, h3⟩
    | _ => exact h3.elim

set_option maxHeartbeats 2000000 in
theorem den_spec {P : Program} {n : Nat} {J : List Nat} {ro : Option Nat} : ∀ (c : Code) (Q : Exit → Env → World → Prop) (ρ : Slots) (m : List Nat) (a : Act) (w : World), den P (TI.of P) n ro J c Q ⟨ρ, m⟩ w → EInv n ρ a.tmps → DI m a →
    c.wpIn (WF ro) 0 P (fun e a' w' => (∀ l, e ≠ .goto l) ∧ lift n (mods c) (hasRF c && ro.isNone) a m Q e a' w') a w := by
  intro c
  induction c with
  | skip => intro Q ρ m a w h hi hd; exact wpIn_skip ⟨by simp, ρ, m, hi, KeepsT.refl _ _, hd, fun _ => rfl, h⟩
  | label l => intro Q ρ m a w h hi hd; exact wpIn_label ⟨by simp, ρ, m, hi, KeepsT.refl _ _, hd, fun _ => rfl, h⟩
  | ret => intro Q ρ m a w h hi hd; exact wpIn_ret ⟨by simp, ρ, m, hi, KeepsT.refl _ _, hd, fun _ => rfl, h⟩
  | exit id => intro Q ρ m a w h hi hd; exact wpIn_exit ⟨by simp, ρ, m, hi, KeepsT.refl _ _, hd, fun _ => rfl, h⟩
  | goto l => intro Q ρ m a w h hi hd; exact h.elim
  | refuse why => intro Q ρ m a w h hi hd; exact h.elim
  | rangeFunc g ps as body =>
    intro Q ρ m a w h hi hd
    simp only [den_rangeFunc] at h
    split at h
    · rename_i k first cap hg
      have hgv := evalIn_spec (a := a) hi.ρ _ _ hg
      have res : ∀ (l : Nat) (w : World), (resolve a.eval (rangeCall g l) 0).run P w = .ok { target := .fn (.func k) cap, args := first ++ #[.func (.yield l) #[] #[]] } w := by
        intro l w
        simp only [rangeCall, resolve, hgv, Deferred.ofValue]
        simp [Act.eval]
      cases ro with
      | none =>
        refine wpIn_rangeFunc fun fn hfn => ?_
        let r : Loop := { state := .ready, pending := none, fn, tmps := a.tmps, params := ps, assign := as, body, defers := w.heap.size }
        have h := h r ⟨rfl, rfl, rfl, hi.size, hi.ρ⟩ rfl rfl _ _ _ rfl rfl rfl
        refine ⟨w.heap.size + 1, [{ target := .collected w.heap.size, args := #[] }], (w.alloc (.deferred (some []))).alloc (.loop r), { target := .fn (.func k) cap, args := first ++ #[.func (.yield (w.heap.size + 1)) #[] #[]] }, (w.alloc (.deferred (some []))).alloc (.loop r), k, (first.toList ++ [Value.func (.yield (w.heap.size + 1)) #[] #[]] ++ cap.toList).toArray, (w.alloc (.deferred (some []))).alloc (.loop r), run_enterLoop_outer _ _ _ _ _, res _ _, fun _ _ => trivial, ?_, by simp [WF, Fence.wide], ?_⟩
        · simp only [invoke]
          rw [← h.1]
          congr 2
          apply Array.ext'; simp
        · refine callsIn_WF (h.2.mono ?_)
          rintro e w3 ⟨v, rfl, hv⟩
          refine afterD_spec (a := { a with defers := _ }) hi (fun _ _ => rfl) ?_ (fun h => by simp [hasRF] at h) hv
          unfold DI at *
          simp [hd]
      | some l0 =>
        obtain ⟨⟨r0, hr0⟩, h⟩ := h
        refine wpIn_rangeFunc fun fn hfn => ?_
        let r : Loop := { state := .ready, pending := none, fn, tmps := a.tmps, params := ps, assign := as, body, defers := r0.defers }
        have h := h r ⟨rfl, rfl, rfl, hi.size, hi.ρ⟩ rfl rfl _ _ rfl rfl
        refine ⟨w.heap.size, [], w.alloc (.loop r), { target := .fn (.func k) cap, args := first ++ #[.func (.yield w.heap.size) #[] #[]] }, w.alloc (.loop r), k, (first.toList ++ [Value.func (.yield w.heap.size) #[] #[]] ++ cap.toList).toArray, w.alloc (.loop r), run_enterLoop_in hr0 _ _ _ _ _, res _ _, fun _ _ => trivial, ?_, by simp [WF, Fence.wide], ?_⟩
        · simp only [invoke]
          rw [← h.1]
          congr 2
          apply Array.ext'; simp
        · refine callsIn_WF (h.2.mono ?_)
          rintro e w3 ⟨v, rfl, hv⟩
          refine afterD_spec (a := { a with defers := _ }) hi (fun _ _ => rfl) ?_ (fun _ => rfl) hv
          unfold DI at *
          simp [hd]
    · exact h.elim
  | region id ops draw =>
    intro Q ρ m a w h hi hd
    cases draw with
    | true =>
      simp only [den_draw] at h
      cases hJ : memN (100000 + id) J with
      | false =>
        rw [hJ, cond_false] at h
        exact drawD_spec (r := ⟨ρ, [], []⟩) hi.rinv h fun r' a' w' h1 h2 h3 => ⟨by simp, r'.ρ, m, h1.einv, h2.t, hd.keeps h2, fun _ => rfl, h3⟩
      | true =>
        rw [hJ, cond_true] at h
        obtain ⟨ms, I, hok, h, h3⟩ := h
        refine drawD_spec (r := ⟨ρ, [], []⟩) hi.rinv h fun r' a' w' j1 j2 j3 => ?_
        obtain ⟨vs, hvs, hI⟩ := need_elim j3
        obtain ⟨hl, hq⟩ := h3 vs w' hI
        exact rejoin (by simp) hi hok hl hvs j1.einv j2.t (hd.keeps j2) hq
    | false =>
      refine wpIn_region ?_
      rw [List.range_eq_range', ← Array.length_toList]
      exact opsD_spec ops.toList 0 (fun j => by simp) ⟨ρ, [], []⟩ a w _ hi.rinv h fun r' a' w' h1 h2 h3 => ⟨by simp, r'.ρ, m, h1.einv, h2.t, hd.keeps h2, fun _ => rfl, h3⟩
  | seq x y ihx ihy =>
    intro Q ρ m a w h hi hd
    refine wpIn_seq (wpIn_mono (ihx _ ρ m a w h hi hd) ?_)
    rintro e a' w' ⟨hng, ρ', m', h1, h2, hd', hm, h3⟩
    have k1 : ∀ {a''}, KeepsT (mods y) a' a'' → KeepsT (mods (.seq x y)) a a'' := fun h => (h2.mono fun t ht => (memN_append.1 ht).1).trans (h.mono fun t ht => (memN_append.1 ht).2)
    have k2 : KeepsT (mods (.seq x y)) a a' := h2.mono fun t ht => (memN_append.1 ht).1
    have e1 : (hasRF (.seq x y) && ro.isNone) = false → (hasRF x && ro.isNone) = false := fun h => by
      simp only [hasRF, Bool.and_eq_false_iff, Bool.or_eq_false_iff] at *; rcases h with h | h; exact .inl h.1; exact .inr h
    have e2 : (hasRF (.seq x y) && ro.isNone) = false → (hasRF y && ro.isNone) = false := fun h => by
      simp only [hasRF, Bool.and_eq_false_iff, Bool.or_eq_false_iff] at *; rcases h with h | h; exact .inl h.2; exact .inr h
    cases e with
    | normal => exact wpIn_mono (ihy Q ρ' m' a' w' h3 h1 hd') fun e a'' w'' ⟨g, ρ'', m'', j1, j2, jd, jm, j3⟩ => ⟨g, ρ'', m'', j1, k1 j2, jd, fun h => (jm (e2 h)).trans (hm (e1 h)), j3⟩
    | _ => exact ⟨hng, ρ', m', h1, k2, hd', fun h => hm (e1 h), h3⟩
  | cond o x y ihx ihy =>
    intro Q ρ m a w h hi hd
    simp only [den_cond] at h
    have e1 : (hasRF (.cond o x y) && ro.isNone) = false → (hasRF x && ro.isNone) = false := fun h => by
      simp only [hasRF, Bool.and_eq_false_iff, Bool.or_eq_false_iff] at *; rcases h with h | h; exact .inl h.1; exact .inr h
    have e2 : (hasRF (.cond o x y) && ro.isNone) = false → (hasRF y && ro.isNone) = false := fun h => by
      simp only [hasRF, Bool.and_eq_false_iff, Bool.or_eq_false_iff] at *; rcases h with h | h; exact .inl h.2; exact .inr h
    split at h
    · rename_i b hb
      have hv := evalIn_spec (a := a) hi.ρ _ _ hb
      cases hJ : joins J o with
      | false =>
        rw [hJ, cond_false] at h
        refine wpIn_cond_split hv (fun ht => ?_) (fun hf => ?_)
        · exact wpIn_mono (ihx Q ρ m a w (h.1 ht) hi hd) fun e a'' w'' ⟨g, ρ'', m'', j1, j2, jd, jm, j3⟩ => ⟨g, ρ'', m'', j1, j2.mono fun t ht => (memN_append.1 ht).1, jd, fun h => jm (e1 h), j3⟩
        · exact wpIn_mono (ihy Q ρ m a w (h.2 hf) hi hd) fun e a'' w'' ⟨g, ρ'', m'', j1, j2, jd, jm, j3⟩ => ⟨g, ρ'', m'', j1, j2.mono fun t ht => (memN_append.1 ht).2, jd, fun h => jm (e2 h), j3⟩
      | true =>
        rw [hJ, cond_true] at h
        cases hrf : ((hasRF x || hasRF y) && ro.isNone) with
        | true => rw [hrf, cond_true] at h; exact h.elim
        | false =>
        rw [hrf, cond_false] at h
        have hrf' : (hasRF (.cond o x y) && ro.isNone) = false := hrf
        obtain ⟨ms, I, hok, h1, h2, h3⟩ := h
        have key : ∀ (e : Exit) (a'' : Act) (w'' : World), (∀ l, e ≠ .goto l) → (∃ ρ'', EInv n ρ'' a''.tmps ∧ KeepsT (mods x ++ mods y) a a'' ∧ DI m a'' ∧ (match e with
            | .normal => need (looks ρ'' ms) fun vs => I vs w''
            | e => Q e ⟨ρ'', m⟩ w'')) → (∀ l, e ≠ .goto l) ∧ lift n (mods x ++ mods y) (hasRF (.cond o x y) && ro.isNone) a m Q e a'' w'' := by
          rintro e a'' w'' g ⟨ρ'', j1, j2, jd, j3⟩
          cases e with
          | normal =>
            obtain ⟨vs, hvs, hI⟩ := need_elim j3
            obtain ⟨hl, hq⟩ := h3 vs w'' hI
            exact rejoin g hi hok hl hvs j1 j2 jd hq
          | _ => exact ⟨g, ρ'', m, j1, j2, jd, fun _ => rfl, j3⟩
        refine wpIn_cond_split hv (fun ht => ?_) (fun hf => ?_)
        · refine wpIn_mono (ihx _ ρ m a w (h1 ht) hi hd) fun e a'' w'' ⟨g, ρ'', m'', j1, j2, jd, jm, j3⟩ => ?_
          obtain rfl := jm (e1 hrf')
          exact key e a'' w'' g ⟨ρ'', j1, j2.mono fun t ht => (memN_append.1 ht).1, jd, by cases e <;> exact j3⟩
        · refine wpIn_mono (ihy _ ρ m a w (h2 hf) hi hd) fun e a'' w'' ⟨g, ρ'', m'', j1, j2, jd, jm, j3⟩ => ?_
          obtain rfl := jm (e2 hrf')
          exact key e a'' w'' g ⟨ρ'', j1, j2.mono fun t ht => (memN_append.1 ht).2, jd, by cases e <;> exact j3⟩
    · exact h.elim
  | block id c ih =>
    intro Q ρ m a w h hi hd
    refine wpIn_block (wpIn_mono (ih _ ρ m a w h hi hd) ?_)
    rintro e a' w' ⟨hng, ρ', m', h1, h2, hd', hm, h3⟩
    cases e with
    | exit id' =>
      simp only [Exit.inBlock]
      by_cases he : id' = id
      · subst he
        simp only at h3
        simp only [Nat.beq_refl, cond_true] at h3
        rw [if_pos rfl]
        exact ⟨by simp, ρ', m', h1, h2, hd', hm, h3⟩
      · have : Nat.beq id' id = false := by rw [← Bool.not_eq_true]; exact fun h' => he (Nat.eq_of_beq_eq_true h')
        simp only [this, cond_false] at h3
        rw [if_neg he]
        exact ⟨by simp, ρ', m', h1, h2, hd', hm, h3⟩
    | _ => exact ⟨hng, ρ', m', h1, h2, hd', hm, h3⟩
  | scope c ih =>
    intro Q ρ m a w h hi hd
    refine wpIn_scope (wpIn_mono (ih _ ρ m a w h hi hd) ?_)
    rintro e a' w' ⟨hng, ρ', m', h1, h2, hd', hm, h3⟩
    cases e with
    | goto l => exact absurd rfl (hng l)
    | _ => exact ⟨hng, ρ', m', h1, h2, hd', hm, h3⟩
  | loop c ih =>
    intro Q ρ m a w h hi hd
    simp only [den_loop] at h
    have hrfc : hasRF (.loop c) = hasRF c := rfl
    rw [hrfc]
    cases hrf : (hasRF c && ro.isNone) with
    | false =>
      rw [hrf, cond_false] at h
      obtain ⟨ms, hok, I, μ, hs, hround⟩ := h
      obtain ⟨vs0, hv0, hI0⟩ := need_elim hs
      have hms' := looks_lt hi hv0
      let vsOf : Act → List Value := fun a' => ms.map fun t => a'.tmps.getD t undef
      refine wpIn_loop (fun a' w' => I (vsOf a') w' ∧ KeepsT (mods c) a a' ∧ DI m a' ∧ a'.tmps.size = n) (fun a' w' => μ (vsOf a') w') ?_ ?_
      · obtain ⟨hl, hlk⟩ := looks_spec hv0
        have := looks_vals (a' := a) hl fun j t v h1 h2 => hi.ρ _ _ (hlk j t v h1 h2)
        exact ⟨by show I (ms.map fun t => a.tmps.getD t undef) w; rw [← this]; exact hI0, KeepsT.refl _ _, hd, hi.size⟩
      · rintro a' w' ⟨hI, hk, hd', hsz⟩
        obtain ⟨hl, hb⟩ := hround _ _ hI
        have hi' := loop_env hi hok hms' hsz hk hl rfl
        refine wpIn_mono (ih _ _ m a' w' hb hi' hd') ?_
        rintro e a'' w'' ⟨hng, ρ', m'', j1, j2, jd, jm, j3⟩
        obtain rfl := jm hrf
        cases e with
        | normal =>
          obtain ⟨vs', hv', hI', hμ⟩ := need_elim j3
          obtain ⟨hl', hlk'⟩ := looks_spec hv'
          have := looks_vals (a' := a'') hl' fun j t v h1 h2 => j1.ρ _ _ (hlk' j t v h1 h2)
          subst this
          exact ⟨⟨hI', hk.trans j2, jd, j1.size⟩, hμ⟩
        | _ => exact ⟨hng, ρ', m'', j1, hk.trans j2, jd, fun _ => rfl, j3⟩
    | true =>
      rw [hrf, cond_true] at h
      obtain ⟨ms, hok, I, μ, hs, hround⟩ := h
      obtain ⟨vs0, hv0, hI0⟩ := need_elim hs
      have hms' := looks_lt hi hv0
      let vsOf : Act → List Value := fun a' => ms.map fun t => a'.tmps.getD t undef
      refine wpIn_loop (fun a' w' => (∃ m', I (vsOf a') m' w' ∧ DI m' a') ∧ KeepsT (mods c) a a' ∧ a'.tmps.size = n) (fun a' w' => μ (vsOf a') w') ?_ ?_
      · obtain ⟨hl, hlk⟩ := looks_spec hv0
        have := looks_vals (a' := a) hl fun j t v h1 h2 => hi.ρ _ _ (hlk j t v h1 h2)
        exact ⟨⟨m, by show I (ms.map fun t => a.tmps.getD t undef) m w; rw [← this]; exact hI0, hd⟩, KeepsT.refl _ _, hi.size⟩
      · rintro a' w' ⟨⟨m', hI, hd'⟩, hk, hsz⟩
        obtain ⟨hl, hb⟩ := hround _ _ _ hI
        have hi' := loop_env hi hok hms' hsz hk hl rfl
        refine wpIn_mono (ih _ _ m' a' w' hb hi' hd') ?_
        rintro e a'' w'' ⟨hng, ρ', m'', j1, j2, jd, jm, j3⟩
        cases e with
        | normal =>
          obtain ⟨vs', hv', hI', hμ⟩ := need_elim j3
          obtain ⟨hl', hlk'⟩ := looks_spec hv'
          have := looks_vals (a' := a'') hl' fun j t v h1 h2 => j1.ρ _ _ (hlk' j t v h1 h2)
          subst this
          exact ⟨⟨⟨m'', hI', jd⟩, hk.trans j2, j1.size⟩, hμ⟩
        | _ => exact ⟨hng, ρ', m'', j1, hk.trans j2, jd, fun h => by simp at h, j3⟩

end Go.Den

/- The engine, part 7: a function's contract out of 'den'. -/
import Derived.Test.YticgmchbihakkaaE6
set_option linter.unusedVariables false
set_option linter.unusedSimpArgs false
namespace Go.Den
open Go

/-- The results of a function, read. -/
def resV (T : Nat → TI) (ρ : Slots) (w : World) : List ResultVar → (List Value → Prop) → Prop
  | [], K => K []
  | .tmp t :: l, K => need (look ρ t) fun v => resV T ρ w l fun vs => K (v :: vs)
  | .cell x t :: l, K => match look ρ x, (T t).k with
    | some (.pointer (some a)), .agg _ => ∃ vs, (vs.length = (T t).size ∧ cellsAt w a 0 vs) ∧ resV T ρ w l fun us => K (.agg vs.toArray :: us)
    | some (.pointer (some a)), .bad => False
    | some (.pointer (some a)), _k => ∃ v, w.cell? a = some v ∧ resV T ρ w l fun us => K (v :: us)
    | _, _ => False

def oneV : List Value → Value
  | [v] => v
  | vs => .tuple vs.toArray

def argSlots : Nat → List Value → Slots
  | _, [] => []
  | i, v :: vs => (i, some v) :: argSlots (i + 1) vs

/-- At the function's end: its marks. -/
def retM : List Nat → World → (World → Prop) → Prop
  | [], w, K => K w
  | D :: m, w, K => w.heap[D]? = some (.deferred (some [])) ∧ ∀ w', w' = w.putObj D (.deferred none) → retM m w' K

def retQ (T : Nat → TI) (rs : List ResultVar) (K : Value → World → Prop) : Exit → Env → World → Prop
  | .normal, ⟨ρ, m⟩, w => retM m w fun w' => resV T ρ w' rs fun vs => K (oneV vs) w'
  | .ret, ⟨ρ, m⟩, w => retM m w fun w' => resV T ρ w' rs fun vs => K (oneV vs) w'
  | _, _, _ => False

def readRes (tmps : Array Value) : ResultVar → Sem Value
  | .tmp t => pure (tmps.getD t undef)
  | .cell a t => do loadVar t (← asAddr (tmps.getD a undef))

theorem resV_spec {P : Program} {w : World} {tmps : Array Value} : ∀ (rs : List ResultVar) {ρ : Slots} {K : List Value → Prop}, (∀ t v, look ρ t = some v → tmps[t]? = some v) → resV (TI.of P) ρ w rs K →
    ∃ vs, (rs.mapM (readRes tmps)).run P w = .ok vs w ∧ K vs
  | [], ρ, K, hρ, h => ⟨[], rfl, h⟩
  | .tmp t :: l, ρ, K, hρ, h => by
    obtain ⟨v, hv, h⟩ := need_elim h
    obtain ⟨vs, h1, h2⟩ := resV_spec l hρ h
    obtain ⟨hlt, he⟩ := Array.getElem?_eq_some_iff.1 (hρ _ _ hv)
    have e : tmps.getD t undef = v := by simp [Array.getD, hlt, he]
    exact ⟨v :: vs, by rw [List.mapM_cons, Sem.run_bind]; simp only [readRes, Sem.run_pure, Result.andThen, e]; rw [Sem.run_bind, h1]; rfl, h2⟩
  | .cell x t :: l, ρ, K, hρ, h => by
    have key : ∀ a v, look ρ x = some (.pointer (some a)) → (loadVar t a).run P w = .ok v w → (resV (TI.of P) ρ w l fun us => K (v :: us)) →
        ∃ vs, ((ResultVar.cell x t :: l).mapM (readRes tmps)).run P w = .ok vs w ∧ K vs := by
      intro a v hl hr h
      obtain ⟨vs, h1, h2⟩ := resV_spec l hρ h
      obtain ⟨hlt, he⟩ := Array.getElem?_eq_some_iff.1 (hρ _ _ hl)
      have e : tmps.getD x undef = .pointer (some a) := by simp [Array.getD, hlt, he]
      have hx : (readRes tmps (.cell x t)).run P w = .ok v w := by
        show (do loadVar t (← asAddr (tmps.getD x undef)) : Sem Value).run P w = _
        rw [e]
        simp only [asAddr, Sem.run_bind, Sem.run_pure, Result.andThen, hr]
      exact ⟨v :: vs, by rw [List.mapM_cons, Sem.run_bind, hx]; simp only [Result.andThen]; rw [Sem.run_bind, h1]; rfl, h2⟩
    simp only [resV] at h
    split at h
    · rename_i a fs hl hk
      obtain ⟨vs, ⟨hlen, hc⟩, h⟩ := h
      obtain ⟨fl, h1, h2, h3, h4⟩ := ti_agg hk
      refine key a _ hl ?_ h
      have hag : (isAgg t).run P w = .ok true w := by simp [isAgg, run_underlying' h1]
      have hls := run_loadCells_list (P := P) w a vs (fun j v hj => by have := cellsAt_spec hc j v hj; simpa using this)
      simp [loadVar, hag, run_sizeOf_under h1, ← h4, ← hlen, hls]
    · exact h.elim
    · rename_i a hl h1 h2
      obtain ⟨v, hc, h⟩ := h
      refine key a _ hl ?_ h
      have hag := ti_isAgg (P := P) (t := t) (fun e => h2 e) (fun fs e => h1 fs e) w
      simp [loadVar, hag, hc]
    · exact h.elim

theorem results_spec {P : Program} {w : World} {fn : Func} {tmps : Array Value} {ρ : Slots} {K : Value → World → Prop} (hρ : ∀ t v, look ρ t = some v → tmps[t]? = some v) (h : resV (TI.of P) ρ w fn.results.toList fun vs => K (oneV vs) w) :
    ∃ v, (results fn tmps).run P w = .ok v w ∧ K v w := by
  obtain ⟨vs, h1, h2⟩ := resV_spec fn.results.toList hρ h
  refine ⟨oneV vs, ?_, h2⟩
  have e : results fn tmps = (do let vs ← fn.results.mapM (readRes tmps); pure (if h : vs.size = 1 then vs[0] else .tuple vs)) := by
    unfold results
    congr 1
  rw [e, Array.mapM_eq_mapM_toList, Sem.run_bind, Sem.run_map, h1]
  match vs with
  | [] => rfl
  | [v] => rfl
  | v :: u :: vs => rfl

theorem look_argSlots {t : Nat} {v : Value} : ∀ {i : Nat} {args : List Value}, look (argSlots i args) t = some v → ∃ j, t = i + j ∧ args[j]? = some v
  | _, [], h => by cases h
  | i, u :: args, h => by
    simp only [argSlots] at h
    rw [look_cons] at h
    split at h
    · rename_i e; exact ⟨0, by omega, by simpa using h⟩
    · obtain ⟨j, h1, h2⟩ := look_argSlots h; exact ⟨j + 1, by omega, by simpa using h2⟩

theorem leaves_of {P : Program} {fn : Func} {tmps : Array Value} {ρ : Slots} {R : Ending → World → Prop} {K : Value → World → Prop} (hρ : ∀ t v, look ρ t = some v → tmps[t]? = some v) (hR : ∀ v w, K v w → R (.returned v) w) :
    ∀ (m : List Nat) (w : World), retM m w (fun w' => resV (TI.of P) ρ w' fn.results.toList fun vs => K (oneV vs) w') → LeavesInM Fence.wide 0 P fn tmps R (m.map fun D => ({ target := .collected D, args := #[] } : Deferred)) .returning w
  | [], w, h => by
    obtain ⟨v, hv, hK⟩ := results_spec hρ h
    exact ⟨v, hv, hR v w hK⟩
  | D :: m, w, ⟨h1, h2⟩ => ⟨by simp, .inl ⟨D, _, rfl, run_takeDeferred h1, leaves_of hρ hR m _ (h2 _ rfl)⟩⟩

/-- A FUNCTION'S CONTRACT OUT OF ITS CODE'S OBLIGATIONS. -/
theorem spec_join {P : Program} {f : Nat} {fn : Func} {n : Nat} {rs : Array ResultVar} {c : Code} {args : List Value} {w : World} {K : Value → World → Prop} (hf : P.funcs[f]? = some fn) (hnt : fn.ntmps = n) (hrs : fn.results = rs) (hb : fn.body = some c) (hn : (fn.name == "runtime.NumGoroutine") = false)
    (ha : Nat.ble args.length n = true) {J : List Nat} (h : den P (TI.of P) n none J c (retQ (TI.of P) rs.toList K) ⟨argSlots 0 args, []⟩ w) : Meets P f args w K := by
  subst hnt hrs
  have hle : args.length ≤ fn.ntmps := Nat.le_of_ble_eq_true ha
  refine ⟨enters_of hf hn (by rw [hb]; rfl), (callsIn_wide (n := 0)).1 (callsIn_of_wp_marks hf hb trivial ?_)⟩
  have hi : EInv fn.ntmps (argSlots 0 args) (args.toArray ++ Array.replicate (fn.ntmps - args.toArray.size) undef) := by
    refine ⟨by simp; omega, fun t v ht => ?_⟩
    obtain ⟨j, rfl, hj⟩ := look_argSlots ht
    obtain ⟨hlt, he⟩ := List.getElem?_eq_some_iff.1 hj
    simp [Array.getElem?_append, hlt, he]
  refine wpIn_mono (den_spec (ro := none) c _ _ [] { tmps := args.toArray ++ Array.replicate (fn.ntmps - args.toArray.size) undef, defers := [] } w h hi rfl) ?_
  rintro e a' w' ⟨hng, ρ', m', h1, h2, hd, hm, h3⟩
  cases e with
  | normal =>
    show LeavesInM _ _ _ _ _ _ a'.defers _ _
    rw [hd]
    exact leaves_of h1.ρ (fun v w h => ⟨v, rfl, h⟩) m' w' h3
  | ret =>
    show LeavesInM _ _ _ _ _ _ a'.defers _ _
    rw [hd]
    exact leaves_of h1.ρ (fun v w h => ⟨v, rfl, h⟩) m' w' h3
  | _ => exact h3.elim

theorem spec_of {P : Program} {f : Nat} {fn : Func} {n : Nat} {rs : Array ResultVar} {c : Code} {args : List Value} {w : World} {K : Value → World → Prop} (hf : P.funcs[f]? = some fn) (hnt : fn.ntmps = n) (hrs : fn.results = rs) (hb : fn.body = some c) (hn : (fn.name == "runtime.NumGoroutine") = false)
    (ha : Nat.ble args.length n = true) (h : den P (TI.of P) n none [] c (retQ (TI.of P) rs.toList K) ⟨argSlots 0 args, []⟩ w) : Meets P f args w K := spec_join hf hnt hrs hb hn ha h

/-! ### Rounds -/

/-- What is asked at a round's end. -/
def roundQ (l : Nat) (R : Value → World → Prop) : Exit → Env → World → Prop
  | .normal, _, w => ∃ r, w.heap[l]? = some (.loop r) ∧ ∀ w', w' = w.putObj l (.loop { r with state := .ready, pending := none }) → R (.bool true) w'
  | .ret, _, w => ∃ r, w.heap[l]? = some (.loop r) ∧ ∀ w', w' = w.putObj l (.loop { r with state := .done, pending := some .ret }) → R (.bool false) w'
  | .exit id, _, w => ∃ r, w.heap[l]? = some (.loop r) ∧ ∀ w', w' = w.putObj l (.loop { r with state := .done, pending := some (.exit id) }) → R (.bool false) w'
  | _, _, _ => False

def nodupN : List Nat → Bool
  | [] => true
  | t :: l => !memN t l && nodupN l
def psOk (n : Nat) (ps : List Nat) : Bool := nodupN ps && ps.all fun t => Nat.blt t n

theorem fold_set {n : Nat} : ∀ (ps : List Nat) (args : List Value) (tmps : Array Value) (ρ : Slots), ps.length = args.length → psOk n ps = true → tmps.size = n → (∀ t v, look ρ t = some v → tmps[t]? = some v) →
    ((ps.zip args).foldl (fun tmps (t, a) => tmps.setIfInBounds t a) tmps).size = n ∧ ∀ t v, look (bindS ps args ρ) t = some v → ((ps.zip args).foldl (fun tmps (t, a) => tmps.setIfInBounds t a) tmps)[t]? = some v
  | [], [], tmps, ρ, _, _, h, hρ => ⟨h, hρ⟩
  | t0 :: ps, a0 :: args, tmps, ρ, hl, hp, h, hρ => by
    simp only [psOk, nodupN, List.all_cons, Bool.and_eq_true] at hp
    obtain ⟨⟨h1, h2⟩, h3, h4⟩ := hp
    have ht0 : t0 < n := by simpa [Nat.blt_eq] using h3
    have hnm : t0 ∉ ps := fun hm => by rw [memN_iff.2 hm] at h1; cases h1
    obtain ⟨k1, k2⟩ := fold_set (n := n) ps args (tmps.setIfInBounds t0 a0) ((t0, some a0) :: ρ) (by simpa using hl) (by simp only [psOk, h2, h4, Bool.and_self]) (by simpa using h) (by
      intro t v ht
      rw [look_cons] at ht
      split at ht
      · rename_i e; subst e; cases ht; simp [h, ht0]
      · rename_i e; rw [Array.getElem?_setIfInBounds, if_neg e]; exact hρ t v ht)
    refine ⟨k1, fun t v ht => k2 t v ?_⟩
    simp only [bindS] at ht
    rw [look_cons] at ht
    split at ht
    · rename_i e
      subst e
      have : ∀ (ps : List Nat) (args : List Value), t0 ∉ ps → look (bindS ps args ((t0, some a0) :: ρ)) t0 = some a0 := by
        intro ps
        induction ps with
        | nil => intro args _; simp [bindS, look]
        | cons d ps ih =>
          intro args hm
          cases args with
          | nil => simp [bindS, look]
          | cons u us =>
            simp only [List.mem_cons, not_or] at hm
            simp only [bindS]
            rw [look_cons, if_neg (fun e => hm.1 e.symm)]
            exact ih us hm.2
      rw [this ps args hnm]; exact ht
    · rename_i e
      have : ∀ (ps : List Nat) (args : List Value), look (bindS ps args ((t0, some a0) :: ρ)) t = look (bindS ps args ρ) t := by
        intro ps
        induction ps with
        | nil => intro args; simp [bindS]; rw [look_cons, if_neg e]
        | cons d ps ih =>
          intro args
          cases args with
          | nil => simp [bindS]; rw [look_cons, if_neg e]
          | cons u us => simp only [bindS]; rw [look_cons, look_cons, ih us]
      rw [this]; exact ht

/-- A CALL OF YIELD, OUT OF THE LOOP's BODY. -/
theorem yld_join {P : Program} {n l : Nat} {ρ : Slots} {ps : Array Nat} {as body : Code} {r : Loop} {args : List Value} {w : World} {K : Value → World → Prop} (hrec : IsRec n ρ ps as body r) (hl : w.heap[l]? = some (.loop r)) (hlen : ps.toList.length = args.length) (hps : psOk n ps.toList = true) {J : List Nat}
    (h : den P (TI.of P) n (some l) J as (fun e env w1 => match e with
      | .normal => ∃ r1, w1.heap[l]? = some (.loop r1) ∧ r1.state = .ready ∧ ∀ w2, w2 = w1.putObj l (.loop { r1 with state := .busy }) → den P (TI.of P) n (some l) J body (roundQ l K) env w2
      | _ => False) ⟨bindS ps.toList args ρ, []⟩ w) : yldD P l args w K := by
  have hz : (ps.zip args.toArray).foldl (fun (tmps : Array Value) (t, a) => tmps.setIfInBounds t a) r.tmps = (ps.toList.zip args).foldl (fun (tmps : Array Value) (t, a) => tmps.setIfInBounds t a) r.tmps := by
    rw [← Array.foldl_toList]; simp
  refine ⟨r.fn, (ps.toList.zip args).foldl (fun (tmps : Array Value) (t, a) => tmps.setIfInBounds t a) r.tmps, as, body, ?_, ?_⟩
  · rw [run_yield hl (by rw [hrec.params]; simpa using hlen.symm), hrec.params, hrec.assign, hrec.body, hz]
  obtain ⟨k1, k2⟩ := fold_set (n := n) ps.toList args r.tmps ρ hlen hps hrec.size hrec.slots
  refine roundIn_of_wpIn (F := Fence.wide) trivial ?_
  refine wpIn_mono (den_spec (ro := some l) as _ _ [] { tmps := (ps.toList.zip args).foldl (fun (tmps : Array Value) (t, a) => tmps.setIfInBounds t a) r.tmps, defers := [] } w h ⟨k1, k2⟩ rfl) ?_
  rintro e a1 w1 ⟨hng, ρ', m', h1, h2, hd, hm, h3⟩
  obtain rfl := hm (by simp)
  cases e with
  | normal =>
    obtain ⟨r1, hr1, hs1, h4⟩ := h3
    refine ⟨_, run_beginRound hr1 hs1, ?_⟩
    refine wpIn_mono (den_spec (ro := some l) body _ _ [] a1 _ (h4 _ rfl) h1 hd) ?_
    rintro e a2 w2 ⟨hng, ρ'', m'', j1, j2, jd, jm, j3⟩
    cases e with
    | normal => obtain ⟨r2, g1, g2⟩ := j3; exact ⟨_, _, run_endRound _ g1, _, rfl, g2 _ rfl⟩
    | ret => obtain ⟨r2, g1, g2⟩ := j3; exact ⟨_, _, run_endRound _ g1, _, rfl, g2 _ rfl⟩
    | exit id => obtain ⟨r2, g1, g2⟩ := j3; exact ⟨_, _, run_endRound _ g1, _, rfl, g2 _ rfl⟩
    | _ => exact j3.elim
  | _ => exact h3.elim

end Go.Den

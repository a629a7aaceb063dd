/- The engine, part 4: one operation, with and without effects, is sound. -/
import Derived.Test.YticgmchbihakkaaE3
set_option linter.unusedVariables false
set_option linter.unusedSimpArgs false
namespace Go.Den
open Go

theorem fill_spec : ∀ (fs : List (Nat × Nat)) (place : Nat → Option (Nat × Nat)) (_ : ∀ i x, fs[i]? = some x → place i = some x) (ps : List (Nat × Value)) (cells cs : List Value), fillL fs cells ps = some cs →
    Instr.fill place cells.toArray ps = some cs.toArray := by
  intro fs place hp ps
  induction ps with
  | nil => intro cells cs h; simp [fillL] at h; simp [Instr.fill, h]
  | cons p ps ih =>
    obtain ⟨i, v⟩ := p
    intro cells cs h
    simp only [fillL] at h
    split at h
    · rename_i off size hi
      cases hb : (Nat.beq v.cells.toList.length size && Nat.ble (off + size) cells.length) with
      | false => rw [hb] at h; cases h
      | true =>
        rw [hb] at h
        simp only [cond_true] at h
        rw [Bool.and_eq_true] at hb
        have h1 : v.cells.size = size := by have := Nat.eq_of_beq_eq_true hb.1; simpa using this
        have h2 : off + size ≤ cells.length := Nat.le_of_ble_eq_true hb.2
        have key : (v.cells.zipIdx.foldl (fun cs (c, j) => cs.setIfInBounds (off + j) c) cells.toArray) = (cells.take off ++ v.cells.toList ++ cells.drop (off + size)).toArray := by
          have gen : ∀ (l : List Value) (k : Nat) (cs : List Value), off + k + l.length ≤ cs.length →
              (l.zipIdx k).foldl (fun (cs : Array Value) (x : Value × Nat) => cs.setIfInBounds (off + x.2) x.1) cs.toArray = (cs.take (off + k) ++ l ++ cs.drop (off + k + l.length)).toArray := by
            intro l
            induction l with
            | nil => intro k cs hk; simp
            | cons x l ih2 =>
              intro k cs hk
              simp only [List.length_cons] at hk
              simp only [List.zipIdx_cons, List.foldl_cons, List.setIfInBounds_toArray]
              rw [ih2 (k + 1) (cs.set (off + k) x) (by simp; omega)]
              apply Array.ext'
              simp only [List.length_cons]
              apply List.ext_getElem?
              intro j
              simp only [List.getElem?_append, List.length_append, List.length_take, List.length_set, List.getElem?_take, List.getElem?_drop, List.getElem?_set, List.length_cons, List.getElem?_cons]
              repeat' split
              all_goals first | rfl | omega | skip
              all_goals first | (congr 1; omega) | skip
              all_goals simp_all
              all_goals first | (congr 1; omega) | omega
          have := gen v.cells.toList 0 cells (by simp; omega)
          have e : v.cells.zipIdx = (v.cells.toList.zipIdx 0).toArray := by
            apply Array.ext'; simp
          rw [e, List.foldl_toArray']
          · simpa [h1] using this
          · simp
        simp only [Instr.fill, hp i _ hi]
        rw [if_neg (by simp; omega), key]
        exact ih _ _ h
    · cases h
section
variable {P : Program} {f : Operand → Option Value} {ρ : Operand → Value} {c : List (Bool × Bool)}

theorem need_elim {α : Type} {x : Option α} {K : α → Prop} (h : need x K) : ∃ v, x = some v ∧ K v := by
  cases x with
  | none => exact h.elim
  | some v => exact ⟨v, rfl, h⟩

theorem run_mapM_sizes {w : World} {fs : List Field} (h : ∀ x ∈ fs, P.cellsOf x.type ≠ 0) : (fs.mapM (m := Sem) fun f => do pure (f.offset, ← sizeOf f.type)).run P w = .ok (fs.map fun f => (f.offset, P.cellsOf f.type)) w := by
  induction fs with
  | nil => simp
  | cons x fs ih =>
    rw [List.mapM_cons]
    have h0 := run_sizeOf_cells (h x (by simp)) w
    have h1 := ih fun y hy => h y (by simp [hy])
    rw [Sem.run_bind, Sem.run_bind, h0]
    simp only [Result.andThen, Sem.run_pure]
    rw [Sem.run_bind, h1]
    rfl

theorem zero_of {t : Nat} (h : 1 ≤ (TI.of P t).zero.length) : ∃ i z, P.info? t = some i ∧ i.zero = some z ∧ z.cells.toList = (TI.of P t).zero := by
  have key : ∀ z0 : List Value, (z0 = match (P.info? t).bind (·.zero) with | some z => z.cells.toList | none => []) → 1 ≤ z0.length → ∃ i z, P.info? t = some i ∧ i.zero = some z ∧ z.cells.toList = z0 := by
    intro z0 e hl
    cases hi : P.info? t with
    | none => simp [hi] at e; subst e; simp at hl
    | some i =>
      cases hz : i.zero with
      | none => simp [hi, hz] at e; subst e; simp at hl
      | some z => exact ⟨i, z, rfl, hz, by simp [hi, hz] at e; exact e.symm⟩
  have bad : ∀ z0 : List Value, z0 = [] → 1 ≤ z0.length → ∃ i z, P.info? t = some i ∧ i.zero = some z ∧ z.cells.toList = z0 := by
    intro z0 e hl; subst e; simp at hl
  refine (?_ : ((TI.of P t).zero = match (P.info? t).bind (·.zero) with | some z => z.cells.toList | none => []) ∨ (TI.of P t).zero = []).elim (fun e => key _ e h) (fun e => bad _ e h)
  unfold TI.of
  dsimp only
  cases hu : P.underlying t with
  | none => exact .inr rfl
  | some d =>
    cases d <;> first | exact .inl rfl | exact .inr rfl | skip
    case slice e => dsimp only; cases Nat.beq (P.cellsOf e) 0 <;> first | exact .inl rfl | exact .inr rfl
    case struct fs => dsimp only; cases fs.toList.all (fun f => !Nat.beq (P.cellsOf f.type) 0) <;> first | exact .inl rfl | exact .inr rfl
theorem run_zeroValue {t : Nat} (h : 1 ≤ (TI.of P t).zero.length) : ∃ z, (∀ w, (zeroValue t).run P w = .ok z w) ∧ z.cells.toList = (TI.of P t).zero := by
  obtain ⟨i, z, hi, hz, e⟩ := zero_of h
  exact ⟨z, fun w => by simp [zeroValue, typeInfo, hi, hz], e⟩

theorem stepP_spec (hf : ∀ x v, f x = some v → ρ x = v) (hc : conds c) {o : Oper} {K : Value → Prop} {p : Prop} {rd : (World → Prop) → Prop} (h : stepP P (TI.of P) f c o.op rd K = some p) (hp : p) :
    ∃ v, (∀ w, (∀ p, rd p → p w) → (execOp ρ o).run P w = .ok (.value v) w) ∧ K v := by
  unfold stepP at h
  unfold execOp
  split at h
  · rename_i x ho
    cases h
    obtain ⟨v, hv, hK⟩ := need_elim hp
    exact ⟨v, fun w hw => by simp [ho, hf _ _ hv], hK⟩
  · rename_i x ho
    cases h
    obtain ⟨v, hv, hK⟩ := need_elim hp
    exact ⟨v, fun w hw => by simp [ho, hf _ _ hv], hK⟩
  · rename_i t x ho
    cases h
    simp only [ho]
    split at hp
    · rename_i A hx
      rw [hf _ _ hx]
      split at hp
      · rename_i fs hk
        obtain ⟨a, vs, hu, hK⟩ := hp
        obtain ⟨rfl, hl, hcs'⟩ := under_elim hu hc
        obtain ⟨fl, h1, h2, h3, h4⟩ := ti_agg hk
        refine ⟨_, fun w hw => ?_, hK⟩
        have hcs := hw _ hcs'
        have hag : (isAgg t).run P w = .ok true w := by simp [isAgg, run_underlying' h1]
        have hls := run_loadCells_list (P := P) w a vs (fun j v hj => by have := cellsAt_spec hcs j v hj; simpa using this)
        simp [Instr.loadAt, Instr.sureAddr, loadVar, hag, run_sizeOf_under h1, ← h4, ← hl, hls]
      · exact hp.elim
      · rename_i h1 h2
        obtain ⟨a, v, hu, hK⟩ := hp
        obtain ⟨rfl, hcell'⟩ := under_elim hu hc
        refine ⟨_, fun w hw => ?_, hK⟩
        have hcell := hw _ hcell'
        have hag := ti_isAgg (P := P) (t := t) (fun e => h2 e) (fun fs e => h1 fs e) w
        simp [Instr.loadAt, Instr.sureAddr, loadVar, hag, hcell]
    · exact hp.elim
  · rename_i x ho
    cases h
    simp only [ho]
    split at hp
    · rename_i A hx
      rw [hf _ _ hx]
      obtain ⟨a, hu, hK⟩ := hp
      obtain rfl := under_elim hu hc
      exact ⟨_, fun w hw => rfl, hK⟩
    · rename_i fn fi ca hx
      rw [hf _ _ hx]
      cases fn <;> first | (exact hp.elim) | exact ⟨_, fun w hw => rfl, hp⟩
    · exact hp.elim
  · rename_i op t x y ty ho
    simp only [ho]
    split at h
    · cases h
    · rename_i u v _ hx hy
      cases h
      rw [hf _ _ hx, hf _ _ hy]
      obtain ⟨z, hz, hK⟩ := binD_spec (P := P) (p := x) (q := y) hc hp
      exact ⟨z, fun w hw => by rw [Sem.run_bind, hz]; rfl, hK⟩
    · cases h; exact hp.elim
  · rename_i op t x ho
    cases h
    simp only [ho]
    obtain ⟨v, hv, hK⟩ := need_elim hp
    rw [hf _ _ hv]
    obtain ⟨z, hz, hK⟩ := unD_spec (P := P) hK
    exact ⟨z, fun w hw => by rw [Sem.run_bind, hz]; rfl, hK⟩
  · rename_i src dst x ho
    simp only [ho]
    split at h
    · rename_i k0 n k1 k hx hs hd
      cases h
      rw [hf _ _ hx]
      exact ⟨_, fun w hw => by simp [convert, run_underlying' (ti_int hs), run_underlying' (ti_int hd), Conv.intToInt], hp⟩
    · rename_i s hx hs hd
      cases h
      rw [hf _ _ hx]
      exact ⟨_, fun w hw => by simp [convert, run_underlying' (ti_str hs), run_underlying' (ti_str hd)], hp⟩
    · cases h
  · rename_i t x ho
    cases h
    simp only [ho]
    obtain ⟨v, hv, hK⟩ := need_elim hp
    rw [hf _ _ hv]
    have hcs := @ti_cases P t
    split at hK
    · exact hK.elim
    · exact hK.elim
    · rename_i h1 h2
      rcases hcs with h | ⟨_, _, h⟩ | ⟨_, h⟩ | ⟨_, h⟩ | ⟨_, _, h⟩ | ⟨_, _, h, _⟩ | ⟨_, _, _, h⟩ | ⟨_, _, _, _, h⟩ | ⟨_, h', h⟩ | ⟨_, _, h, _⟩
      · exact absurd h h2
      all_goals first | (exact absurd h' h1) | exact ⟨_, fun w hw => by simp [Instr.makeInterface, run_underlying' h], hK⟩
  · rename_i fn first cap ho
    cases h
    simp only [ho]
    obtain ⟨u, hu, hK⟩ := need_elim hp
    obtain ⟨v, hv, hK⟩ := need_elim hK
    exact ⟨_, fun w hw => by rw [needs_array hf hu, needs_array hf hv]; simp [Instr.makeFunc], hK⟩
  · rename_i t x i ho
    cases h
    simp only [ho]
    split at hp
    · rename_i A fs hx hk
      rw [hf _ _ hx]
      split at hp
      · rename_i off size hi
        cases hz : Nat.beq size 0 with
        | true => rw [hz] at hp; exact hp.elim
        | false =>
          rw [hz] at hp
          obtain ⟨a, hu, hK⟩ := hp
          obtain rfl := under_elim hu hc
          obtain ⟨fl, h1, h2, h3, h4⟩ := ti_agg hk
          rw [h2] at hi
          simp only [List.getElem?_map, Option.map_eq_some_iff] at hi
          obtain ⟨fld, hfl, he⟩ := hi
          cases he
          have hne := h3 fld (List.mem_of_getElem? hfl)
          refine ⟨_, fun w hw => ?_, hK⟩
          have hfl' : fl[i]? = some fld := by simpa using hfl
          simp [Instr.fieldAt, run_underlying' h1, hfl', Instr.sureAddr, fieldPlace, run_sizeOf_cells hne, hne]
      · exact hp.elim
    · exact hp.elim
  · rename_i t x i ho
    cases h
    simp only [ho]
    split at hp
    · rename_i A n cap k j e esz hx hi hk
      rw [hf _ _ hx, hf _ _ hi]
      obtain ⟨a, hu, hK⟩ := hp
      obtain ⟨rfl, h0, h1⟩ := under_elim hu hc
      obtain ⟨h2, rfl, h3⟩ := ti_slice hk
      exact ⟨_, fun w hw => by simp [Instr.indexAt, asIntOf, run_underlying' h2, h0, h1, run_sizeOf_cells h3], hK⟩
    · exact hp.elim
  · rename_i t x i ho
    cases h
    simp only [ho]
    split at hp
    · rename_i s k j hx hi hk
      rw [hf _ _ hx, hf _ _ hi]
      obtain ⟨hu, hK⟩ := hp
      obtain ⟨h0, h1⟩ := under_elim hu hc
      have hlt : j.toNat < s.size := by omega
      have e : s[j.toNat]? = some s[j.toNat] := by simp [hlt]
      have e2 : byteAt s j = (s[j.toNat].toNat : Int) := by
        unfold byteAt
        have : s.data.toList.getD j.toNat 0 = s[j.toNat] := by
          have hl : j.toNat < s.data.toList.length := by simpa using hlt
          rw [List.getD_eq_getElem?_getD, List.getElem?_eq_getElem hl]
          rfl
        rw [this]
      refine ⟨_, fun w hw => ?_, hK⟩
      rw [e2]
      simp [Instr.index, asIntOf, run_underlying' (ti_str hk), h0, e]
    · exact hp.elim
  · rename_i t x lo hi mx ho
    cases h
    simp only [ho]
    split at hp
    · rename_i A n cap l h' m e esz hx hlo hhi hmx hk
      rw [hf _ _ hx]
      obtain ⟨h2, rfl, h3⟩ := ti_slice hk
      obtain ⟨v, hv, hK⟩ := sliceD_spec (P := P) hc h2 h3 (optV_spec hf hlo) (optV_spec hf hhi) (optV_spec hf hmx) hp
      exact ⟨v, fun w hw => by rw [Sem.run_bind, hv]; rfl, hK⟩
    · rename_i s l h' hx hlo hhi hmx hk
      rw [hf _ _ hx]
      have hmx' : mx.map ρ = none := by
        rcases optV_spec hf hmx with ⟨h, _⟩ | ⟨_, _, _, h⟩
        · exact h
        · cases h
      obtain ⟨v, hv, hK⟩ := sliceS_spec (P := P) hc (ti_str hk) (optV_spec hf hlo) (optV_spec hf hhi) hp
      exact ⟨v, fun w hw => by rw [hmx', Sem.run_bind, hv]; rfl, hK⟩
    · exact hp.elim
  · rename_i x i ho
    cases h
    simp only [ho]
    split at hp
    · rename_i vs hx
      rw [hf _ _ hx]
      obtain ⟨v, hv, hK⟩ := need_elim hp
      have hv' : vs[i]? = some v := by simpa using hv
      exact ⟨v, fun w hw => by simp [Instr.extract, hv'], hK⟩
    · exact hp.elim
  · rename_i t ps ho
    cases h
    simp only [ho]
    split at hp
    · rename_i fs hk
      cases hz : Nat.ble 1 (TI.of P t).zero.length with
      | false => rw [hz] at hp; exact hp.elim
      | true =>
        rw [hz] at hp
        simp only [cond_true] at hp
        obtain ⟨qs, hq, hp⟩ := need_elim hp
        obtain ⟨cs, hcs, hK⟩ := need_elim hp
        obtain ⟨fl, h1, h2, h3, h4⟩ := ti_agg hk
        obtain ⟨z, hzr, hze⟩ := run_zeroValue (P := P) (t := t) (Nat.le_of_ble_eq_true hz)
        refine ⟨_, fun w hw => ?_, hK⟩
        have hqs := partsV_spec hf hq
        have hm := run_mapM_sizes (P := P) (w := w) (fs := fl.toList) h3
        have hm2 : (fl.mapM (m := Sem) fun f => do pure (f.offset, ← sizeOf f.type)).run P w = .ok (fs.toArray) w := by
          rw [Array.mapM_eq_mapM_toList, Sem.run_map, hm, h2]; rfl
        have hfill := fill_spec fs (fun i => fs.toArray[i]?) (fun i x hx => by simpa using hx) qs (TI.of P t).zero cs hcs
        have hz2 : z.cells = (TI.of P t).zero.toArray := by apply Array.ext'; simpa using hze
        have hp2 : (ps.map fun (x : Nat × Operand) => (x.1, ρ x.2)).toList = qs := by simpa using hqs
        have hb : (Instr.build t (ps.map fun (x : Nat × Operand) => (x.1, ρ x.2))).run P w = .ok (.agg cs.toArray) w := by
          unfold Instr.build
          rw [Sem.run_bind, hzr]
          simp only [Result.andThen]
          rw [Sem.run_bind, run_underlying' h1]
          simp only [Result.andThen]
          rw [Sem.run_bind, hm2]
          simp only [Result.andThen]
          rw [hp2, hz2, hfill]
          rfl
        exact (by rw [Sem.run_bind, hb]; rfl)
    · exact hp.elim
  · rename_i cl ho
    simp only [ho]
    split at h
    · rename_i hcal
      split at h
      · rename_i A n cap t hn ht
        split at h
        · rename_i e esz hk
          cases h
          obtain ⟨h2, _, _⟩ := ti_slice hk
          have ht' : cl.argTypes = #[t] := by apply Array.ext'; simpa using ht
          exact ⟨_, fun w hw => by simp [resolve, hcal, needs_array hf hn, invoke, builtin, Builtin.len_, ht', run_underlying' h2, goInt], hp⟩
        · cases h
      · rename_i s t hn ht
        split at h
        · rename_i hk
          cases h
          have ht' : cl.argTypes = #[t] := by apply Array.ext'; simpa using ht
          exact ⟨_, fun w hw => by simp [resolve, hcal, needs_array hf hn, invoke, builtin, Builtin.len_, ht', run_underlying' (ti_str hk), goInt], hp⟩
        · cases h
      · cases h
    · rename_i hcal
      split at h
      · rename_i A m n t hn ht
        split at h
        · rename_i e esz hk
          cases h
          obtain ⟨h2, _, _⟩ := ti_slice hk
          have ht' : cl.argTypes = #[t] := by apply Array.ext'; simpa using ht
          exact ⟨_, fun w hw => by simp [resolve, hcal, needs_array hf hn, invoke, builtin, Builtin.cap_, ht', run_underlying' h2, goInt], hp⟩
        · cases h
      · cases h
    · rename_i hcal
      split at h
      · rename_i k x l hn
        cases h
        obtain ⟨z, hz, hK⟩ := need_elim hp
        exact ⟨_, fun w hw => by have := maxL_spec (P := P) (w := w) l x z k hz; simp [resolve, hcal, needs_array hf hn, invoke, builtin, Builtin.max_, this], hK⟩
      · cases h
    · rename_i hcal
      split at h
      · rename_i k x l hn
        cases h
        obtain ⟨z, hz, hK⟩ := need_elim hp
        exact ⟨_, fun w hw => by have := minL_spec (P := P) (w := w) l x z k hz; simp [resolve, hcal, needs_array hf hn, invoke, builtin, Builtin.min_, this], hK⟩
      · cases h
    · cases h
  · cases h
end

end Go.Den

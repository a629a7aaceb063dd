/- The engine, part 5: an operation with effects is sound. -/
import Derived.Test.YticgmchbihakkaaE4
set_option linter.unusedVariables false
set_option linter.unusedSimpArgs false
namespace Go.Den
open Go

/-- The fence of all functions, in a round or in none. -/
def WF (ro : Option Nat) : Fence := { Fence.wide with round := ro }

section
variable {P : Program} {w : World} {a : Act} {f : Operand → Option Value}

theorem callsIn_WF {ro : Option Nat} {n k : Nat} {args : Array Value} {R : Ending → World → Prop} (h : Calls P k args w R) : CallsIn (WF ro) n P k args w R :=
  (callsIn_wide (n := n)).2 h

theorem setCells_run : ∀ (vs : List Value) (i : Nat) (w : World) (ad : Addr), wrAt w ad i vs → (storeCells ad vs i).run P w = .ok () (setCells w ad i vs)
  | [], _, _, _, _ => by simp [storeCells, setCells]
  | v :: vs, i, w, ad, ⟨⟨⟨u, hu⟩, hfz, h1⟩, h2⟩ => by
    have := setCells_run vs (i + 1) (w.setCell (ad.add i) v) ad h2
    rw [storeCells, Sem.run_bind, run_store P w (ad.add i) v _ h1]
    simp [hu, hfz, this, setCells]

theorem run_newRow (t : Nat) (cells : Array Value) : (newRow t cells).run P w = .ok ⟨w.heap.size, 0, none⟩ (w.alloc (.cells cells t)) := by
  rfl

theorem ti_size {t : Nat} (h : 1 ≤ (TI.of P t).size) : (TI.of P t).size = P.cellsOf t := by
  unfold TI.of at *
  dsimp only at *
  cases hu : P.underlying t with
  | none => simp [hu] at h
  | some d =>
    rw [hu] at h
    cases d with
    | slice e =>
      dsimp only at h ⊢
      cases hb : Nat.beq (P.cellsOf e) 0 with
      | true => rw [hb] at h; simp at h
      | false => rfl
    | struct fs =>
      dsimp only at h ⊢
      cases hb : fs.toList.all (fun f => !Nat.beq (P.cellsOf f.type) 0) with
      | true => rfl
      | false => rw [hb] at h; simp at h
    | _ => first | rfl | (simp at h)

theorem stepE_spec (hf : ∀ x v, f x = some v → a.eval x = v) {ro : Option Nat} {o : Oper} {K : Value → World → Prop} {next : Act → World → Prop} {Q : Exit → Act → World → Prop}
    (h : stepE P (TI.of P) f o.op o.type w K) (hK : ∀ v w', K v w' → next (a.put o.dst v) w') : o.uponIn (WF ro) 0 P a next Q ((execOp a.eval o).run P w) := by
  have val : ∀ {s : Sem Value}, runD P s w K → o.uponIn (WF ro) 0 P a next Q ((do pure (.value (← s)) : Sem Next).run P w) := by
    rintro s ⟨v, w', hr, hk⟩
    rw [Sem.run_bind, hr]
    exact hK _ _ hk
  have unt : ∀ {s : Sem Unit}, runU P s w K → o.uponIn (WF ro) 0 P a next Q ((do s; pure .skip : Sem Next).run P w) := by
    rintro s ⟨w', hr, hk⟩
    rw [Sem.run_bind, hr]
    exact hK _ _ hk
  unfold stepE at h
  unfold execOp
  split at h
  · rename_i t ho
    simp only [ho]
    cases hb : (Nat.beq (TI.of P t).zero.length (TI.of P t).size && Nat.ble 1 (TI.of P t).size) with
    | false => rw [hb] at h; exact h.elim
    | true =>
      rw [hb] at h
      rw [Bool.and_eq_true] at hb
      have h1 : (TI.of P t).zero.length = (TI.of P t).size := Nat.eq_of_beq_eq_true hb.1
      have h2 : 1 ≤ (TI.of P t).zero.length := by rw [h1]; exact Nat.le_of_ble_eq_true hb.2
      obtain ⟨z, hz, he⟩ := run_zeroValue h2
      refine val ⟨_, _, ?_, h _ _ rfl rfl⟩
      rw [← he]
      simp [Instr.alloc, hz, newVar, run_newRow]
  · rename_i t x ho
    simp only [ho]
    obtain ⟨v, hv, h⟩ := need_elim h
    rw [hf _ _ hv]
    exact val ⟨_, _, by simp [Instr.box, newVar, run_newRow]; rfl, h _ _ rfl (by simp)⟩
  · rename_i t len ps ho
    simp only [ho]
    split at h
    · rename_i e esz hk
      cases hb : Nat.ble (len * esz) 16777216 with
      | false => rw [hb] at h; exact h.elim
      | true =>
        rw [hb] at h
        obtain ⟨qs, hq, h'⟩ := need_elim h
        obtain ⟨cs, hcs, h''⟩ := need_elim h'
        clear h h'
        cases hb2 : Nat.beq (TI.of P e).zero.length esz with
        | false => rw [hb2] at h''; exact h''.elim
        | true =>
          rw [hb2] at h''
          obtain ⟨hu, rfl, hne⟩ := ti_slice hk
          have hlen : (TI.of P e).zero.length = P.cellsOf e := Nat.eq_of_beq_eq_true hb2
          obtain ⟨z, hz, he⟩ := run_zeroValue (P := P) (t := e) (by omega)
          have hle := Nat.le_of_ble_eq_true hb
          have hqs := partsV_spec hf hq
          have hp2 : (ps.map fun (x : Nat × Operand) => (x.1, a.eval x.2)).toList = qs := by simpa using hqs
          have hz2 : z.cells = (TI.of P e).zero.toArray := by apply Array.ext'; simpa using he
          have hfill := fill_spec _ (fun i => some (i * P.cellsOf e, P.cellsOf e)) (fun i x hx => by
            simp only [List.getElem?_map, Option.map_eq_some_iff] at hx
            obtain ⟨j, hj, rfl⟩ := hx
            have : j = i := by
              rw [List.getElem?_range] at hj
              · simpa using hj.symm
              · rcases Nat.lt_or_ge i len with h' | h'
                · exact h'
                · rw [List.getElem?_eq_none (by simpa using h')] at hj; cases hj
            rw [this]) qs _ cs hcs
          refine val ⟨_, _, ?_, h'' _ _ rfl rfl⟩
          unfold Instr.buildSlice
          rw [Sem.run_bind, run_underlying' hu]
          simp only [Result.andThen]
          rw [Sem.run_bind, run_sizeOf_cells hne]
          simp only [Result.andThen]
          rw [if_neg (show ¬ (len * P.cellsOf e > 2 ^ 24) by omega)]
          have hcells : ∀ zero : Array Value, (len * P.cellsOf e = 0 ∨ zero = z.cells) → (Array.range (len * P.cellsOf e)).map (fun i => zero[i % zero.size]!) = (List.replicate len (TI.of P e).zero).flatten.toArray := by
            intro zero hzero
            apply Array.ext'
            rcases hzero with h0 | rfl
            · have : len = 0 := by rcases Nat.mul_eq_zero.1 h0 with h | h; exact h; exact absurd h hne
              subst this
              simp
            · rw [hz2]
              apply List.ext_getElem?
              intro i
              simp only [Array.toList_map, List.size_toArray, List.getElem?_map, Array.toList_range]
              rw [hlen]
              rcases Nat.lt_or_ge i (len * P.cellsOf e) with hi | hi
              · rw [List.getElem?_range hi]
                have hm : i % P.cellsOf e < P.cellsOf e := Nat.mod_lt _ (by omega)
                have hd : i / P.cellsOf e < len := Nat.div_lt_of_lt_mul (by rwa [Nat.mul_comm] at hi)
                have hfl : ∀ (n i : Nat) (l : List Value), 0 < l.length → i < n * l.length → ((List.replicate n l).flatten)[i]? = l[i % l.length]? := by
                  intro n
                  induction n with
                  | zero => intro i l _ h; omega
                  | succ n ih =>
                    intro i l hl h
                    rw [List.replicate_succ, List.flatten_cons]
                    rcases Nat.lt_or_ge i l.length with h1 | h1
                    · rw [List.getElem?_append_left h1, Nat.mod_eq_of_lt h1]
                    · rw [List.getElem?_append_right h1, ih (i - l.length) l hl (by rw [Nat.succ_mul] at h; omega)]
                      congr 1
                      exact (Nat.mod_eq_sub_mod h1).symm
                rw [hfl len i _ (by omega) (by rw [hlen]; exact hi), hlen]
                simp [hlen, hm]
              · rw [List.getElem?_eq_none (by simpa using hi), List.getElem?_eq_none (by simp [List.length_flatten, hlen]; exact hi)]
                rfl
          by_cases h0 : len * P.cellsOf e = 0
          · rw [if_pos h0]
            simp only [Sem.run_bind, Sem.run_pure, Result.andThen]
            rw [hcells _ (.inl h0), hp2, hfill]
            simp [run_newRow]
          · rw [if_neg h0]
            simp only [Sem.run_bind, hz, Sem.run_pure, Result.andThen]
            rw [hcells _ (.inr rfl), hp2, hfill]
            simp [run_newRow]
    · exact h.elim
  · rename_i t x y ho
    simp only [ho]
    split at h
    · rename_i A v hx hy
      rw [hf _ _ hx, hf _ _ hy]
      cases A with
      | none => exact h.elim
      | some ad =>
        simp only [needPtr] at h
        cases hb : (Nat.beq v.cells.toList.length (TI.of P t).size && Nat.ble 1 (TI.of P t).size) with
        | false => rw [hb] at h; exact h.elim
        | true =>
          rw [hb] at h
          rw [Bool.and_eq_true] at hb
          have hl : v.cells.toList.length = (TI.of P t).size := Nat.eq_of_beq_eq_true hb.1
          have h1 := Nat.le_of_ble_eq_true hb.2
          obtain ⟨hw, hk⟩ := h
          refine unt ⟨_, ?_, hk _ rfl⟩
          have hsz : (sizeOf t).run P w = .ok (TI.of P t).size w := by
            have e := ti_size h1
            rw [e]
            exact run_sizeOf_cells (by omega) w
          have hl' : v.cells.size = (TI.of P t).size := by simpa using hl
          simp [Instr.storeAt, Instr.sureAddr, storeVar, hsz, hl', setCells_run _ 0 w ad hw]
    · exact h.elim
  · rename_i src dst x ho
    simp only [ho]
    obtain ⟨v, hv, h⟩ := need_elim h
    rw [hf _ _ hv]
    exact val h
  · rename_i t r ho
    simp only [ho]
    obtain ⟨v, hv, h⟩ := need_elim h
    have : r.map a.eval = v := by
      cases r with
      | none => simp [optV] at hv; simp [hv]
      | some x =>
        simp only [optV, Option.map_eq_some_iff] at hv
        obtain ⟨u, hu, rfl⟩ := hv
        simp [hf _ _ hu]
    rw [this]
    exact val h
  · rename_i t l n ho
    simp only [ho]
    obtain ⟨u, hu, h⟩ := need_elim h
    obtain ⟨v, hv, h⟩ := need_elim h
    rw [hf _ _ hu, hf _ _ hv]
    exact val h
  · rename_i t x i ok ho
    simp only [ho]
    obtain ⟨u, hu, h⟩ := need_elim h
    obtain ⟨v, hv, h⟩ := need_elim h
    rw [hf _ _ hu, hf _ _ hv]
    exact val h
  · rename_i t m k x ho
    simp only [ho]
    obtain ⟨u, hu, h⟩ := need_elim h
    obtain ⟨v, hv, h⟩ := need_elim h
    obtain ⟨z, hz, h⟩ := need_elim h
    rw [hf _ _ hu, hf _ _ hv, hf _ _ hz]
    exact unt h
  · rename_i t m k x ho
    simp only [ho]
    obtain ⟨u, hu, h⟩ := need_elim h
    obtain ⟨v, hv, h⟩ := need_elim h
    obtain ⟨z, hz, h⟩ := need_elim h
    rw [hf _ _ hu, hf _ _ hv, hf _ _ hz]
    exact unt h
  · rename_i t m k ho
    simp only [ho]
    obtain ⟨u, hu, h⟩ := need_elim h
    obtain ⟨v, hv, h⟩ := need_elim h
    rw [hf _ _ hu, hf _ _ hv]
    exact val h
  · rename_i t m s x ho
    simp only [ho]
    obtain ⟨u, hu, h⟩ := need_elim h
    obtain ⟨v, hv, h⟩ := need_elim h
    obtain ⟨z, hz, h⟩ := need_elim h
    rw [hf _ _ hu, hf _ _ hv, hf _ _ hz]
    exact unt h
  · rename_i t x ho
    simp only [ho]
    obtain ⟨u, hu, h⟩ := need_elim h
    rw [hf _ _ hu]
    exact val h
  · rename_i i s ho
    simp only [ho]
    obtain ⟨u, hu, h⟩ := need_elim h
    rw [hf _ _ hu]
    exact val h
  · rename_i i ho
    simp only [ho]
    obtain ⟨u, hu, h⟩ := need_elim h
    rw [hf _ _ hu]
    exact val h
  · rename_i x t u ok ho
    simp only [ho]
    obtain ⟨u, hu, h⟩ := need_elim h
    rw [hf _ _ hu]
    exact val h
  · rename_i op t x y ty ho
    simp only [ho]
    obtain ⟨u, hu, h⟩ := need_elim h
    obtain ⟨v, hv, h⟩ := need_elim h
    rw [hf _ _ hu, hf _ _ hv]
    exact val h
  · rename_i t x i ho
    simp only [ho]
    obtain ⟨u, hu, h⟩ := need_elim h
    obtain ⟨v, hv, h⟩ := need_elim h
    rw [hf _ _ hu, hf _ _ hv]
    exact val h
  · rename_i t x i ho
    simp only [ho]
    obtain ⟨u, hu, h⟩ := need_elim h
    rw [hf _ _ hu]
    exact val h
  · rename_i cl ho
    simp only [ho]
    unfold callD at h
    split at h
    · rename_i g hcal
      split at h
      · rename_i k first cap args hg ha
        have hr : (do let d ← resolve a.eval cl o.type; invoke d.target d.args : Sem Next).run P w = .ok (.enter k (first.toList ++ args ++ cap.toList).toArray) w := by
          simp only [resolve, hcal, hf _ _ hg, Deferred.ofValue]
          simp only [Sem.run_bind, Sem.run_pure, Result.andThen, invoke]
          rw [needs_array hf ha, h.1]
          congr 2
          apply Array.ext'; simp
        rw [hr]
        refine ⟨fun h => by simp [WF, Fence.wide] at h, callsIn_WF (h.2.mono ?_)⟩
        rintro e w' ⟨v, rfl, hv⟩
        exact hK _ _ hv
      · rename_i l first cap args hg ha
        obtain ⟨fn, tmps, assign, body, hy, hR⟩ := h
        have hr : (do let d ← resolve a.eval cl o.type; invoke d.target d.args : Sem Next).run P w = .ok (.round l fn tmps assign body) w := by
          simp only [resolve, hcal, hf _ _ hg, Deferred.ofValue]
          simp only [Sem.run_bind, Sem.run_pure, Result.andThen, invoke]
          rw [needs_array hf ha]
          rw [← hy]
          congr 2
          apply Array.ext'; simp
        rw [hr]
        refine ⟨fun h => by simp [WF, Fence.wide] at h, ?_⟩
        have hR' : RoundIn (WF ro) 0 P l fn tmps assign body w _ := hR
        refine hR'.mono ?_
        rintro e w' ⟨v, rfl, hv⟩
        exact hK _ _ hv
      · exact h.elim
    · rename_i b hcal
      split at h
      · rename_i args ha
        have hb : ∀ {s : Sem Value}, (∀ cs, builtin b cl.argTypes o.type cs args.toArray = (do pure (.value (← s)) : Sem Next)) → runD P s w K →
            o.uponIn (WF ro) 0 P a next Q ((do let d ← resolve a.eval cl o.type; invoke d.target d.args : Sem Next).run P w) := by
          intro s hs hd
          have : (do let d ← resolve a.eval cl o.type; invoke d.target d.args : Sem Next).run P w = (do pure (.value (← s)) : Sem Next).run P w := by
            simp only [resolve, hcal]
            simp only [Sem.run_bind, Sem.run_pure, Result.andThen, invoke]
            rw [needs_array hf ha, hs, Sem.run_bind]
            rfl
          rw [this]
          exact val hd
        split at h <;> first | exact hb (fun _ => rfl) h | exact h.elim
      · exact h.elim
    · exact h.elim
  · exact h.elim
end

end Go.Den

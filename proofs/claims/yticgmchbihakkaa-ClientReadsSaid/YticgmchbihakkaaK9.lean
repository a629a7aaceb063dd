/- Producer.Make. -/
import Derived.Test.YticgmchbihakkaaK8
set_option linter.unusedVariables false
set_option linter.unusedSimpArgs false
namespace Go.Den
open Go
section
variable {Γ : List PP} {L : List HP} {w : World}
theorem Sat.ren (h : Sat Γ L w) {L' : List HP} (g r : Nat → Nat) (hg : ∀ i P, L'[i]? = some P → L[g i]? = some P ∧ r (g i) = i) : Sat Γ L' w := by
  obtain ⟨ow, h1, h2, h3⟩ := h.ex
  refine ⟨fun b => match ow b with | .at j => .at (r j) | o => o, fun b hb => by simp only [h1 b hb], fun p hp => p.mono (h2 p hp) fun b _ hb => ?_, fun i Q hi => Q.mono (h3 (g i) Q (hg i Q hi).1) (fun b _ hb => ?_) fun b _ hb => ?_⟩
  · have hb : ow b = .imm := hb
    simp only [hb]
  · have hb : ow b = .imm := hb
    simp only [hb]
  · have hb : ow b = .at (g i) := hb
    simp only [hb, (hg i Q hi).2]
theorem Sat.swap {P Q : HP} (h : Sat Γ (P :: Q :: L) w) : Sat Γ (Q :: P :: L) w := h.ren (fun i => match i with | 0 => 1 | 1 => 0 | i => i) (fun i => match i with | 0 => 1 | 1 => 0 | i => i) fun i R hi => by
  match i with
  | 0 => exact ⟨hi, rfl⟩
  | 1 => exact ⟨hi, rfl⟩
  | i + 2 => exact ⟨hi, rfl⟩
/-- A place that holds nothing is struck. -/
theorem Sat.strike {P Q : HP} (h : Sat Γ (P :: Q :: L) w) : Sat Γ (P :: L) w := h.swap.drop
end
end Go.Den
namespace Go.Proofs.Yticgmchbihakkaa
open Go Go.Den
set_option maxRecDepth 100000
def renG : Nat → List Rec → List Rec
  | _, [] => []
  | i, r :: rs => { r with off := (i : Int) } :: renG (i + 1) rs
theorem renG_get : ∀ (rs : List Rec) (k i : Nat), (renG k rs)[i]? = rs[i]?.map fun r => { r with off := ((k + i : Nat) : Int) }
  | [], k, i => by simp [renG]
  | r :: rs, k, 0 => by simp [renG]
  | r :: rs, k, i + 1 => by simp [renG, renG_get rs (k + 1) i]; rw [show ((k : Int) + 1 + i) = k + (i + 1) by omega]
theorem renG_len : ∀ (rs : List Rec) (k : Nat), (renG k rs).length = rs.length
  | [], k => rfl
  | r :: rs, k => by simp [renG, renG_len rs (k + 1)]
def renU (i : Nat) (rs : List Rec) : List Rec := (renG 0 rs).take i ++ rs.drop i
theorem renU_get (i : Nat) (rs : List Rec) (hi : i < rs.length) : (renU i rs)[i]? = rs[i]? := by
  unfold renU
  have : ((renG 0 rs).take i).length = i := by simp [renG_len]; omega
  rw [List.getElem?_append_right (by omega), this]
  simp
theorem renU_len (i : Nat) (rs : List Rec) (hi : i ≤ rs.length) : (renU i rs).length = rs.length := by simp [renU, renG_len]; omega
theorem renU_set {i : Nat} {rs : List Rec} {x : Rec} (hx : rs[i]? = some x) : (renU i rs).set i { x with off := (i : Int) } = renU (i + 1) rs := by
  have hi : i < rs.length := (List.getElem?_eq_some_iff.1 hx).1
  have h1 : ((renG 0 rs).take i).length = i := by simp [renG_len]; omega
  have h2 : (renG 0 rs)[i]? = some { x with off := (i : Int) } := by rw [renG_get, hx]; simp
  unfold renU
  rw [List.set_append_right _ _ (by omega), h1, Nat.sub_self, List.take_add_one, h2]
  have : rs.drop i = x :: rs.drop (i + 1) := by
    rw [List.drop_eq_getElem_cons hi]
    congr 1
    exact (List.getElem?_eq_some_iff.1 hx).2
  rw [this]
  simp
theorem cells_set {w : World} {I : Nat → Prop} (n : Int) : ∀ {xs : List Rec} {l : List Value} {i : Nat} {x : Rec}, recR.cells w I xs l → xs[i]? = some x → recR.cells w I (xs.set i { x with off := n }) (l.set (i * 6) (vi n))
  | [], l, i, x, h, hx => by simp at hx
  | y :: xs, l, 0, x, ⟨c, l', e, h1, h2⟩, hx => by
    simp at hx; subst hx
    obtain ⟨kv, vv, e1, hk, hv⟩ := h1
    subst e1; subst e
    exact ⟨recC { y with off := n } kv vv, l', rfl, ⟨kv, vv, rfl, hk, hv⟩, h2⟩
  | y :: xs, l, i + 1, x, ⟨c, l', e, h1, h2⟩, hx => by
    have hc : c.length = 6 := recR.len h1
    subst e
    refine ⟨c, l'.set (i * 6) (vi n), ?_, h1, cells_set n h2 (by simpa using hx)⟩
    rw [List.set_append_right _ _ (by omega), hc]
    congr 2; omega
section
variable {Γ : List PP} {L : List HP} {w : World}
theorem _root_.Go.Den.Sat.rowSet (h : Sat Γ L w) {cs : List Value} {xs : List Rec} {i : Nat} {x : Rec} (hm : recR.row cs xs ∈ Γ) (hx : xs[i]? = some x) (n : Int) : Sat (recR.row (cs.set (i * 6) (vi n)) (xs.set i { x with off := n }) :: Γ) L w :=
  h.der hm fun I ⟨l, m, e, h⟩ => by
    refine ⟨l.set (i * 6) (vi n), m, ?_, cells_set n h hx⟩
    have hl := Rp.cells_len h
    have hi := (List.getElem?_eq_some_iff.1 hx).1
    have : recR.sz = 6 := rfl
    rw [e, List.set_append_left _ _ (by rw [hl, this]; omega)]
set_option maxHeartbeats 1000000 in
theorem c25 (h : Sat Γ L w) {k j a m : Nat} {id epoch corr count : Int} {es : List (ME Slot)} {clock : Nat} (hk : L[k]? = some (.blk a (pdC id epoch corr m nilP count) 146)) (hj : L[j]? = some (.obj m (slotO es clock)))
    (t : ByteArray) (part : Int) {v : Value} {rs : List Rec} (hv : recR.sl v rs ∈ Γ) (hl : 0 < rs.length ∧ rs.length ≤ 100) {seq : Int} (hq : slotN es (t, part) = vi seq) {b : Bat} (hb : b = ⟨0, (rs.length : Int) - 1, id, epoch, seq, renG 0 rs⟩) (hc : chk b = 0) :
    Meets Try.prog 25 [ptr a, .string t, vi part, v] w fun v' w' => ∃ q u1 u2, v' = .tuple #[.agg (rqC 4 (IntKind.i64.wrap (corr + 1)) t part 0 0 u1).toArray, vi 0] ∧
      Sat (byt u2 (encB b) :: byt u1 (encB b) :: Γ) (.blk q (rqC 4 (IntKind.i64.wrap (corr + 1)) t part 0 0 u2) 42 :: L.set k (.blk a (pdC id epoch (IntKind.i64.wrap (corr + 1)) m (ptr q) rs.length) 146)) w' := by
  obtain ⟨A, c, rfl, hc1, hc2, hc3⟩ := h.slVal hv
  simp only [maxLen] at hc2
  refine spec_join Try.func25 Try.ntmps25 Try.results25 rfl (by kernel_rfl) rfl (J := [100007]) ?_
  refine h.new fun b8 w1 hS => ?_
  have hS : Sat Γ (.blk b8 rq0 42 :: L) w1 := hS
  have hk1 : ∀ {P : HP}, (P :: L)[k + 1]? = some (.blk a (pdC id epoch corr m nilP count) 146) := fun {P} => hk
  have hj1 : ∀ {P : HP}, (P :: L)[j + 1]? = some (.obj m (slotO es clock)) := fun {P} => hj
  refine ⟨fun h => (by cases h), fun _ => ?_⟩
  refine ⟨_, rfl, _, rfl, _, nilP, ⟨rfl, hS.ld (k := k + 1) hk rfl⟩, ?_⟩
  refine ⟨fun h => (by cases h), fun _ => ?_⟩
  refine ⟨fun hx => ?_, fun _ => ?_⟩
  · have hx : (decide ((rs.length : Int) = 0) || decide ((100 : Int) < rs.length)) = true := hx
    rw [Bool.or_eq_true, decide_eq_true_eq, decide_eq_true_eq] at hx; omega
  have hS := hS.drew
  have el : IntKind.i64.wrap ((rs.length : Int) - 1) = (rs.length : Int) - 1 := w64 (by omega)
  refine ⟨[10], fun vs u => ∃ b10 rv, vs = [ptr b10] ∧ Sat Γ (.blk b10 [vi 0, vi (rs.length - 1 : Int), vi id, vi epoch, vi seq, rv] 32 :: recR.own rv rs :: .blk b8 rq0 42 :: L) u, by kernel_rfl, ⟨hs [0, 1, 2, 3, 4, 5, 6, 7, 8, 9, 10, 11, 12, 13, 15] (.two 14 true (.two 16 true (hs [17] (.one 18 true (.one 19 false .nil))) 18 true (.one 16 true (hs [17] (.one 19 false .nil)))) 18 true (.one 14 true (.one 16 true (hs [17] (.one 19 false .nil))))), fun u => u.heap[a]? = _, by kernel_rfl, by kernel_rfl, hS.blk (k := k + 1) hk, ?_⟩, ?_⟩
  · refine ⟨_, rfl, _, rfl, _, vi id, ⟨rfl, fun u hu => cell_of hu rfl⟩, _, rfl, _, rfl, _, vi epoch, ⟨rfl, fun u hu => cell_of hu rfl⟩, ?_⟩
    have hone : ∀ (A' : Option Addr) (n' c' : Nat), ∀ u ∈ [vi 0, vi (rs.length - 1 : Int), vi id, vi epoch, vi seq, .slice A' n' c'], u.oneCell' = true := fun A' n' c' => one_of rfl
    have last : ∀ {u : World} {b10 : Nat} {A' : Option Addr} {n' c' : Nat}, Sat Γ (.blk b10 zBat 32 :: recR.own (.slice A' n' c') rs :: .blk b8 rq0 42 :: L) u → wrAt u ⟨b10, 0, none⟩ 0 [vi 0, vi (IntKind.i64.wrap ((rs.length : Int) - 1)), vi id, vi epoch, vi seq, .slice A' n' c'] ∧ ∀ u1, u1 = setCells u ⟨b10, 0, none⟩ 0 [vi 0, vi (IntKind.i64.wrap ((rs.length : Int) - 1)), vi id, vi epoch, vi seq, .slice A' n' c'] → ∃ b10' rv, [ptr b10] = [ptr b10'] ∧ Sat Γ (.blk b10' [vi 0, vi (rs.length - 1 : Int), vi id, vi epoch, vi seq, rv] 32 :: recR.own rv rs :: .blk b8 rq0 42 :: L) u1 := by
      intro u b10 A' n' c' hS
      rw [el]
      refine hS.stAll (vs := [vi 0, vi (rs.length - 1 : Int), vi id, vi epoch, vi seq, .slice A' n' c']) (k := 0) rfl rfl (hone A' n' c') fun u1 hS => ?_
      exact ⟨b10, _, rfl, hS⟩
    refine ⟨?_, ?_⟩
    · refine (c29 hS hk1 hj1 t part).mono ?_
      rintro v2 w2 ⟨e2, rfl⟩
      rw [hq] at e2
      subst e2
      refine ⟨hS.blk (k := k + 1) hk1, ?_, ?_⟩
      · refine (c75 hS hv (by omega)).mono ?_
        rintro v3 w3 hS
        obtain ⟨A', c', rfl, _⟩ := hS.ownVal (k := 0) rfl
        refine ⟨hS.blk (k := k + 2) hk, ?_⟩
        refine hS.new fun b10 w4 hS => ?_
        have hS : Sat Γ (.blk b10 zBat 32 :: recR.own (.slice A' rs.length c') rs :: .blk b8 rq0 42 :: L) w4 := hS
        refine ⟨hS.blk (k := k + 3) hk, ?_⟩
        exact last hS
      · refine hS.new fun b10 w4 hS => ?_
        have hS : Sat Γ (.blk b10 zBat 32 :: .blk b8 rq0 42 :: L) w4 := hS
        refine ⟨hS.blk (k := k + 2) hk, ?_⟩
        refine (c75 hS hv (by omega)).mono ?_
        rintro v3 w3 hS
        obtain ⟨A', c', rfl, _⟩ := hS.ownVal (k := 0) rfl
        refine ⟨hS.blk (k := k + 3) hk, ?_⟩
        exact last hS.swap
    · refine hS.new fun b10 w4 hS => ?_
      have hS : Sat Γ (.blk b10 zBat 32 :: .blk b8 rq0 42 :: L) w4 := hS
      refine ⟨hS.blk (k := k + 2) hk, ?_⟩
      refine (c29 hS (k := k + 2) (j := j + 2) hk hj t part).mono ?_
      rintro v2 w2 ⟨e2, rfl⟩
      rw [hq] at e2
      subst e2
      refine ⟨hS.blk (k := k + 2) hk, ?_⟩
      refine (c75 hS hv (by omega)).mono ?_
      rintro v3 w3 hS
      obtain ⟨A', c', rfl, _⟩ := hS.ownVal (k := 0) rfl
      refine ⟨hS.blk (k := k + 3) hk, ?_⟩
      exact last hS.swap
  · rintro _ w2 ⟨b10, rv, rfl, hS⟩
    refine ⟨rfl, ?_⟩
    obtain ⟨A', c', rfl, hc1', hc2', hc3'⟩ := hS.ownVal (k := 1) rfl
    cases A' with
    | none => have := hc3' rfl; omega
    | some a' =>
    obtain ⟨g, cs, rfl, _, _, _, hcl, hS⟩ := hS.ownOpen (R := recR) (k := 1) rfl
    have hsz : recR.sz = 6 := rfl
    rw [hsz] at hcl
    have hS : Sat (recR.row cs rs :: Γ) (.blk b10 [vi 0, vi (rs.length - 1 : Int), vi id, vi epoch, vi seq, .slice (some ⟨g, 0, none⟩) rs.length c'] 32 :: .blk g cs 47 :: .blk b8 rq0 42 :: L) w2 := hS
    refine ⟨_, rfl, _, _, ⟨rfl, cell_of (hS.blk (k := 0) rfl) rfl⟩, ?_⟩
    refine ⟨[56], by kernel_rfl, fun vs u => ∃ (i : Nat) (cs : List Value), vs = [vi i] ∧ i ≤ rs.length ∧ rs.length * 6 ≤ cs.length ∧ Sat (recR.row cs (renU i rs) :: Γ) (.blk b10 [vi 0, vi (rs.length - 1 : Int), vi id, vi epoch, vi seq, .slice (some ⟨g, 0, none⟩) rs.length c'] 32 :: .blk g cs 47 :: .blk b8 rq0 42 :: L) u, fun vs _ => match vs with | [.int _ i] => (rs.length - i).toNat | _ => 0, ⟨0, cs, rfl, by omega, hcl, hS⟩, ?_⟩
    rintro _ w3 ⟨i, cs, rfl, hi, hcl, hS⟩
    refine ⟨rfl, fun hlt => ?_, fun hlt => ?_⟩
    · have hlt : i < rs.length := by
        have h : decide ((i : Int) < rs.length) = true := hlt
        have := of_decide_eq_true h; omega
      have ei : IntKind.i64.wrap ((i : Int) + 1) = ((i + 1 : Nat) : Int) := w64 (by omega)
      obtain ⟨x, hx⟩ : ∃ x, rs[i]? = some x := ⟨_, List.getElem?_eq_getElem hlt⟩
      refine ⟨_, rfl, _, _, ⟨rfl, cell_of (hS.blk (k := 0) rfl) rfl⟩, ⟨g, 0, none⟩, ⟨rfl, by omega, by omega⟩, _, rfl, ?_⟩
      refine hS.stA (k := 1) (i := i * 6) (v := vi i) rfl ?_ (by omega) rfl fun w4 hS => ?_
      · show ((Addr.mk g 0 none).add ((i : Int).toNat * 6)).add 0 = _
        rw [add_mk, add_mk]; simp
      · have hS := hS.rowSet mh ((renU_get i rs hlt).trans hx) (i : Int)
        rw [renU_set hx] at hS
        refine ⟨⟨i + 1, cs.set (i * 6) (vi i), ?_, hlt, by simpa using hcl, hS.keep⟩, ?_⟩
        · show [vi (IntKind.i64.wrap ((i : Int) + 1))] = _
          rw [ei]
        · show (rs.length - IntKind.i64.wrap ((i : Int) + 1)).toNat < (rs.length - (i : Int)).toNat
          rw [ei]; omega
    · have hlt : ¬ i < rs.length := by
        have h : decide ((i : Int) < rs.length) = false := hlt
        have := of_decide_eq_false h; omega
      have hre : renU i rs = renG 0 rs := by
        unfold renU
        rw [List.drop_of_length_le (by omega), List.append_nil, List.take_of_length_le (by rw [renG_len]; omega)]
      rw [hre] at hS
      have hS := hS.rowFreeze (R := recR) (k := 1) (c := c') rfl mh (by rw [renG_len]; exact hc1') hc2'
      rw [renG_len] at hS
      have hS := hS.addp (p := bat (.agg #[vi 0, vi (rs.length - 1 : Int), vi id, vi epoch, vi seq, .slice (some ⟨g, 0, none⟩) rs.length c']) b) fun I _ hI => by
        subst hb
        exact ⟨_, rfl, isRecs_iff.2 (hI _ mh)⟩
      refine ⟨_, _, ⟨rfl, rfl, hS.ldAll (k := 0) rfl⟩, ?_⟩
      have h76 := c76 hS mh
      rw [hc, if_pos rfl] at h76
      have hle : (encB b).length ≤ 65536 := (chk_parts hc).2.1
      refine h76.mono ?_
      rintro _ w4 ⟨u, rfl, hS⟩
      obtain ⟨U, cu, rfl, _⟩ := hS.bytVal mh
      refine ⟨fun h => (by cases h), fun _ => ?_⟩
      refine ⟨_, rfl, _, rfl, _, vi corr, ⟨rfl, hS.ld (k := k + 3) hk rfl⟩, _, rfl, _, rfl, hS.st (k := k + 3) (i := 2) hk (by simp) rfl fun w5 hS => ?_⟩
      have hS := hS.sub (Γ' := byt (.slice U (encB b).length cu) (encB b) :: Γ) fun q hq => by
        rcases List.mem_cons.1 hq with rfl | hq
        · exact mh
        · exact mt (mt (mt (mt hq)))
      have hS : Sat (byt (.slice U (encB b).length cu) (encB b) :: Γ) (.blk b10 [vi 0, vi (rs.length - 1 : Int), vi id, vi epoch, vi seq, .slice (some ⟨g, 0, none⟩) rs.length c'] 32 :: .emp :: .blk b8 rq0 42 :: L.set k (.blk a (pdC id epoch (IntKind.i64.wrap (corr + 1)) m nilP count) 146)) w5 := hS
      have hS := hS.drop.drop
      have hk2 := set_get (Q := .blk a (pdC id epoch (IntKind.i64.wrap (corr + 1)) m nilP count) 146) hk
      refine ⟨_, rfl, _, rfl, _, vi (IntKind.i64.wrap (corr + 1)), ⟨rfl, hS.ld (k := k + 1) hk2 rfl⟩, ?_⟩
      refine hS.stAll (vs := rqC 4 (IntKind.i64.wrap (corr + 1)) t part 0 0 (.slice U (encB b).length cu)) (k := 0) rfl rfl (one_of rfl) fun w6 hS => ?_
      have hS : Sat _ (.blk b8 (rqC 4 (IntKind.i64.wrap (corr + 1)) t part 0 0 (.slice U (encB b).length cu)) 42 :: L.set k (.blk a (pdC id epoch (IntKind.i64.wrap (corr + 1)) m nilP count) 146)) w6 := hS
      refine ⟨_, _, ⟨rfl, rfl, hS.ldAll (k := 0) rfl⟩, ?_⟩
      refine (c77 hS mh (by omega)).mono ?_
      rintro _ w7 ⟨u2, rfl, hS⟩
      obtain ⟨U2, cu2, rfl, _⟩ := hS.bytVal mh
      refine hS.new fun q w8 hS => ?_
      have hS : Sat _ (.blk q rq0 42 :: .blk b8 (rqC 4 (IntKind.i64.wrap (corr + 1)) t part 0 0 (.slice U (encB b).length cu)) 42 :: L.set k (.blk a (pdC id epoch (IntKind.i64.wrap (corr + 1)) m nilP count) 146)) w8 := hS
      refine hS.stAll (vs := rqC 4 (IntKind.i64.wrap (corr + 1)) t part 0 0 (.slice U2 (encB b).length cu2)) (k := 0) rfl rfl (one_of rfl) fun w9 hS => ?_
      refine ⟨_, rfl, _, rfl, hS.st (k := k + 2) (i := 4) hk2 (by simp) rfl fun w10 hS => ?_⟩
      have hk3 := set_get (Q := .blk a (pdC id epoch (IntKind.i64.wrap (corr + 1)) m (ptr q) count) 146) hk
      have hS : Sat _ (.blk q (rqC 4 (IntKind.i64.wrap (corr + 1)) t part 0 0 (.slice U2 (encB b).length cu2)) 42 :: .blk b8 (rqC 4 (IntKind.i64.wrap (corr + 1)) t part 0 0 (.slice U (encB b).length cu)) 42 :: (L.set k (.blk a (pdC id epoch (IntKind.i64.wrap (corr + 1)) m nilP count) 146)).set k (.blk a (pdC id epoch (IntKind.i64.wrap (corr + 1)) m (ptr q) count) 146)) w10 := hS
      rw [List.set_set] at hS
      refine ⟨_, rfl, _, rfl, hS.st (k := k + 2) (i := 5) hk3 (by simp) rfl fun w11 hS => ?_⟩
      have hS : Sat _ (.blk q (rqC 4 (IntKind.i64.wrap (corr + 1)) t part 0 0 (.slice U2 (encB b).length cu2)) 42 :: .blk b8 (rqC 4 (IntKind.i64.wrap (corr + 1)) t part 0 0 (.slice U (encB b).length cu)) 42 :: (L.set k (.blk a (pdC id epoch (IntKind.i64.wrap (corr + 1)) m (ptr q) count) 146)).set k (.blk a (pdC id epoch (IntKind.i64.wrap (corr + 1)) m (ptr q) rs.length) 146)) w11 := hS
      rw [List.set_set] at hS
      refine ⟨_, _, ⟨rfl, rfl, hS.ldAll (k := 1) rfl⟩, ?_⟩
      refine hS.stAll (vs := rqC 4 (IntKind.i64.wrap (corr + 1)) t part 0 0 (.slice U (encB b).length cu)) (k := 1) rfl rfl (one_of rfl) fun w12 hS => ?_
      exact ⟨_, ⟨rfl, hS.ldAll (k := 1) rfl⟩, q, _, _, rfl, hS.strike⟩
end
end Go.Proofs.Yticgmchbihakkaa

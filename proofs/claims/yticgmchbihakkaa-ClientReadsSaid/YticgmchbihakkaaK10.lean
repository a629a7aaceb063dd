/- Producer.Done; what 'awake' of chapter 24 asks. -/
import Derived.Test.YticgmchbihakkaaK9
set_option linter.unusedVariables false
set_option linter.unusedSimpArgs false
namespace Go.Proofs.Yticgmchbihakkaa
open Go Go.Den
set_option maxRecDepth 100000
section
variable {Γ : List PP} {L : List HP} {w : World}
theorem _root_.Go.Den.cellsAt_blk {u : World} {b t : Nat} {cs : List Value} (h : u.heap[b]? = some (.cells cs.toArray t (0, 0))) : cellsAt u ⟨b, 0, none⟩ 0 cs :=
  cellsAt_of fun j v hj => by simp only [add_mk, Nat.zero_add]; exact cell_of h (by simpa using hj)
theorem c25wait (h : Sat Γ L w) {k a m q : Nat} {id epoch corr count : Int} (hk : L[k]? = some (.blk a (pdC id epoch corr m (ptr q) count) 146)) (t : ByteArray) (part : Int) (v : Value) :
    Meets Try.prog 25 [ptr a, .string t, vi part, v] w fun v' w' => v' = .tuple #[.agg rq0.toArray, vi 14] ∧ Sat Γ L w' := by
  refine spec_of Try.func25 Try.ntmps25 Try.results25 rfl (by kernel_rfl) rfl ?_
  refine h.new fun b8 w1 hS => ?_
  have hS : Sat Γ (.blk b8 rq0 42 :: L) w1 := hS
  refine ⟨fun h => (by cases h), fun _ => ?_⟩
  refine ⟨_, rfl, _, rfl, _, ptr q, ⟨rfl, hS.ld (k := k + 1) hk rfl⟩, ?_⟩
  refine ⟨fun _ => ?_, fun h => (by cases h)⟩
  refine ⟨_, _, ⟨rfl, rfl, hS.ldAll (k := 0) rfl⟩, ?_⟩
  refine hS.stAll (vs := rq0) (k := 0) rfl rfl (one_of rfl) fun w3 hS => ?_
  exact ⟨_, ⟨rfl, hS.ldAll (k := 0) rfl⟩, rfl, hS.drop⟩

set_option maxHeartbeats 1000000 in
theorem c28 (h : Sat Γ L w) {k j l a m q : Nat} {id epoch corr count kd qc part off most : Int} {t : ByteArray} {dv : Value} (hk : L[k]? = some (.blk a (pdC id epoch corr m (ptr q) count) 146)) (hj : L[j]? = some (.obj m (slotO [] 0))) (hl : L[l]? = some (.blk q (rqC kd qc t part off most dv) 42)) (hkj : k ≠ j)
    {xo xl xg : Int} {mem lead : ByteArray} {names nums xd : Value} (hn : names.oneCell' = true) (hu : nums.oneCell' = true) (hd : xd.oneCell' = true) :
    Meets Try.prog 28 [ptr a, .agg (rspC qc 0 xo xl xg mem lead names nums xd).toArray] w fun v' w' => v' = .tuple #[vi xo, vi 0] ∧ Sat Γ ((L.set k (.blk a (pdC id epoch corr m nilP count) 146)).set j (.obj m (slotO [((t, part), vi (IntKind.i64.wrap (0 + count)), 0)] 1))) w' := by
  refine spec_of Try.func28 Try.ntmps28 Try.results28 rfl (by kernel_rfl) rfl ?_
  refine h.new fun b3 w1 hS => ?_
  have hS : Sat Γ (.blk b3 (rspC qc 0 xo xl xg mem lead names nums xd) 52 :: L) w1 := hS
  refine ⟨_, rfl, _, _, ⟨rfl, cell_of (hS.blk (k := 0) rfl) rfl⟩, ?_⟩
  refine ⟨fun h => (by cases h), fun _ => ?_⟩
  have hS := hS.drew
  generalize hw2 : w1.drew = w2 at hS
  refine ⟨hs [0, 1, 2, 3, 4, 5, 6, 7, 8, 9, 10, 11, 12, 13, 14, 15, 16, 17] .nil, fun u => u = w2, by kernel_rfl, by kernel_rfl, hw2, ?_⟩
  refine ⟨_, rfl, _, rfl, _, ptr q, ⟨rfl, fun u hu => by rw [hu]; exact hS.ld (k := k + 1) hk rfl⟩, _, fun _ => rfl, _, fun _ => rfl, _, ptr q, fun _ => ⟨rfl, fun u hu => by rw [hu]; exact hS.ld (k := k + 1) hk rfl⟩, _, fun _ => rfl, _, fun _ => rfl, _, vi qc, fun _ => ⟨rfl, fun u hu => by rw [hu]; exact hS.ld (k := l + 1) hl rfl⟩, _, fun _ => rfl, _, vi qc, fun _ => ⟨rfl, fun u hu => by rw [hu]; exact hS.ld (k := 0) rfl rfl⟩, ?_⟩
  rw [hw2]
  refine ⟨fun hc => ?_, fun _ => ?_⟩
  · have hc : (!decide (qc = qc)) = true := hc
    simp at hc
  refine (c79 _ 0).mono ?_
  rintro _ w3 ⟨rfl, rfl⟩
  refine ⟨fun h => (by cases h), fun _ => ?_⟩
  have hS := hS.drew
  refine ⟨hs [0, 1, 2, 3, 4, 5, 6, 7, 8, 9, 10, 11, 12, 13, 14] (.one 15 true (.one 16 false .nil)), fun u => u.heap[a]? = some (.cells (pdC id epoch corr m (ptr q) count).toArray 146 (0, 0)) ∧ u.heap[q]? = some (.cells (rqC kd qc t part off most dv).toArray 42 (0, 0)), by kernel_rfl, by kernel_rfl, ⟨hS.blk (k := k + 1) hk, hS.blk (k := l + 1) hl⟩, ?_⟩
  refine ⟨_, rfl, _, rfl, _, ptr q, ⟨rfl, fun u hu => cell_of hu.1 rfl⟩, _, rfl, _, rfl, _, .string t, ⟨rfl, fun u hu => cell_of hu.2 rfl⟩, _, rfl, _, rfl, _, ptr q, ⟨rfl, fun u hu => cell_of hu.1 rfl⟩, _, rfl, _, rfl, _, vi part, ⟨rfl, fun u hu => cell_of hu.2 rfl⟩, ?_⟩
  refine hS.new fun b6 w4 hS => ?_
  have hS : Sat Γ (.blk b6 [.string ⟨#[]⟩, vi 0] 153 :: .blk b3 (rspC qc 0 xo xl xg mem lead names nums xd) 52 :: L) w4 := hS
  refine ⟨⟨hS.blk (k := k + 2) hk, hS.blk (k := l + 2) hl⟩, ?_⟩
  refine hS.stAll (vs := [.string t, vi part]) (k := 0) rfl rfl (one_of rfl) fun w5 hS => ?_
  refine ⟨_, rfl, _, rfl, hS.st (k := k + 2) (i := 4) hk (by simp) rfl fun w6 hS => ?_⟩
  have hS : Sat Γ (.blk b6 [.string t, vi part] 153 :: .blk b3 (rspC qc 0 xo xl xg mem lead names nums xd) 52 :: L.set k (.blk a (pdC id epoch corr m nilP count) 146)) w6 := hS
  have hk2 := set_get (Q := .blk a (pdC id epoch corr m nilP count) 146) hk
  have hj2 : (L.set k (.blk a (pdC id epoch corr m nilP count) 146))[j]? = some (.obj m (slotO [] 0)) := by rw [List.getElem?_set_ne hkj]; exact hj
  refine ⟨fun h => (by cases h), fun _ => ?_⟩
  have hS := hS.drew
  refine ⟨hs [0, 1, 2, 3, 4, 6, 7, 8, 9] (.two 5 true (hs [10] (.one 11 false (hs [12] (.one 13 false .nil)))) 11 false (hs [12] (.one 5 true (hs [10] (.one 13 false .nil))))), fun u => u.heap[a]? = some (.cells (pdC id epoch corr m nilP count).toArray 146 (0, 0)) ∧ u.heap[b6]? = some (.cells #[.string t, vi part] 153 (0, 0)), by kernel_rfl, by kernel_rfl, ⟨hS.blk (k := k + 2) hk2, hS.blk (k := 0) rfl⟩, ?_⟩
  refine ⟨_, rfl, _, rfl, _, .map (some m), ⟨rfl, fun u hu => cell_of hu.1 rfl⟩, _, [.string t, vi part], ⟨rfl, rfl, fun u hu => cellsAt_blk hu.2⟩, _, rfl, _, rfl, _, vi count, ⟨rfl, fun u hu => cell_of hu.1 rfl⟩, ?_⟩
  have hS : Sat Γ (.blk b6 [.string t, vi part] 153 :: .blk b3 (rspC qc 0 xo xl xg mem lead names nums xd) 52 :: L.set k (.blk a (pdC id epoch corr m nilP count) 146)) w6.drew := hS
  have hm := hS.obj (k := j + 2) hj2
  have hja : (L.set k (.blk a (pdC id epoch corr m nilP count) 146)).set j (.obj m (slotO [((t, part), vi 0, 0)] 1)) = (L.set k (.blk a (pdC id epoch corr m nilP count) 146)).set j (.obj m (slotO [((t, part), vi 0, 0)] 1)) := rfl
  have ent := run_mapEntryNew slotK Try.underlying143 (Try.zeroValue3 _) hm (t, part) rfl
  have hSe := hS.putO (k := j + 2) (o' := slotO [((t, part), vi 0, 0)] 1) hj2 rfl
  have hSe : Sat Γ (.blk b6 [.string t, vi part] 153 :: .blk b3 (rspC qc 0 xo xl xg mem lead names nums xd) 52 :: (L.set k (.blk a (pdC id epoch corr m nilP count) 146)).set j (.obj m (slotO [((t, part), vi 0, 0)] 1))) (w6.drew.putObj m (slotO [((t, part), vi 0, 0)] 1)) := hSe
  have hj3 := set_get (Q := .obj m (slotO [((t, part), vi 0, 0)] 1)) hj2
  have hk3 : ((L.set k (.blk a (pdC id epoch corr m nilP count) 146)).set j (.obj m (slotO [((t, part), vi 0, 0)] 1)))[k]? = some (.blk a (pdC id epoch corr m nilP count) 146) := by rw [List.getElem?_set_ne (Ne.symm hkj)]; exact hk2
  have hm2 := hSe.obj (k := j + 2) hj3
  have sto := run_entryStoreE (P := Try.prog) (enc := slotE) (mt := 143) (l1 := []) (l2 := []) (k := (t, part)) (u := vi 0) (v := vi (IntKind.i64.wrap (0 + count))) (n := 0) hm2 (by simp)
  have hSf := hSe.putO (k := j + 2) (o' := slotO [((t, part), vi (IntKind.i64.wrap (0 + count)), 0)] 1) hj3 rfl
  have hSf : Sat Γ (.blk b6 [.string t, vi part] 153 :: .blk b3 (rspC qc 0 xo xl xg mem lead names nums xd) 52 :: ((L.set k (.blk a (pdC id epoch corr m nilP count) 146)).set j (.obj m (slotO [((t, part), vi 0, 0)] 1))).set j (.obj m (slotO [((t, part), vi (IntKind.i64.wrap (0 + count)), 0)] 1))) ((w6.drew.putObj m (slotO [((t, part), vi 0, 0)] 1)).putObj m (slotO [((t, part), vi (IntKind.i64.wrap (0 + count)), 0)] 1)) := hSf
  rw [List.set_set] at hSf
  have fin : ∀ {u : World}, Sat Γ (.blk b6 [.string t, vi part] 153 :: .blk b3 (rspC qc 0 xo xl xg mem lead names nums xd) 52 :: (L.set k (.blk a (pdC id epoch corr m nilP count) 146)).set j (.obj m (slotO [((t, part), vi (IntKind.i64.wrap (0 + count)), 0)] 1))) u → Sat Γ ((L.set k (.blk a (pdC id epoch corr m nilP count) 146)).set j (.obj m (slotO [((t, part), vi (IntKind.i64.wrap (0 + count)), 0)] 1))) u := fun h => h.drop.drop
  refine ⟨?_, ?_⟩
  · refine ⟨_, _, run_lookupE slotK Try.underlying143 (Try.zeroValue3 _) hm (t, part) false, ?_⟩
    refine ⟨⟨hS.blk (k := k + 2) hk2, hS.blk (k := 0) rfl⟩, ?_⟩
    refine ⟨_, _, ent, ?_⟩
    refine ⟨_, sto, ?_⟩
    refine ⟨_, rfl, _, _, ⟨rfl, cell_of (hSf.blk (k := 1) rfl) rfl⟩, ?_⟩
    exact ⟨rfl, fin hSf⟩
  · refine ⟨_, _, ent, ?_⟩
    have lk := run_lookupE slotK Try.underlying143 (Try.zeroValue3 _) hm2 (t, part) false
    rw [show findE (t, part) [((t, part), vi 0, 0)] 0 = some (0, vi 0) by simp [findE]] at lk
    refine ⟨_, _, lk, ?_⟩
    refine ⟨⟨hSe.blk (k := k + 2) hk3, hSe.blk (k := 0) rfl⟩, ?_⟩
    refine ⟨_, sto, ?_⟩
    refine ⟨_, rfl, _, _, ⟨rfl, cell_of (hSf.blk (k := 1) rfl) rfl⟩, ?_⟩
    exact ⟨rfl, fin hSf⟩
end
end Go.Proofs.Yticgmchbihakkaa

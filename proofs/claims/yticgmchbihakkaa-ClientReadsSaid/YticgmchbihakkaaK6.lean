/- client's Producer: NewProducer, Seq, own, again; Round, Block, Record, records. -/
import Derived.Test.YticgmchbihakkaaK5
set_option linter.unusedVariables false
set_option linter.unusedSimpArgs false
namespace Go.Proofs.Yticgmchbihakkaa
open Go Go.Den
set_option maxRecDepth 100000

abbrev slotO (es : List (ME Slot)) (clock : Nat) : Obj := .map (entsE slotE es).toArray clock
/-- A Producer's cells. -/
abbrev pdC (id epoch corr : Int) (m : Nat) (under : Value) (count : Int) : List Value := [vi id, vi epoch, vi corr, .map (some m), under, vi count]
def slotN (es : List (ME Slot)) (k : Slot) : Value := match findE k es 0 with
  | some (_, v) => v
  | none => vi 0

section
variable {Γ : List PP} {L : List HP} {w : World}

theorem _root_.Go.Den.Sat.mkMap (h : Sat Γ L w) {t : TypeId} {K : Value → World → Prop} (hK : ∀ b w1, Sat Γ (.obj b (.map #[] 0) :: L) w1 → K (.map (some b)) w1) : runD Try.prog (Instr.makeMap t none) w K := by
  have hr : (Instr.makeMap t none).run Try.prog w = .ok (.map (some w.heap.size)) (w.alloc (.map #[] 0)) := by
    simp [Instr.makeMap, Result.andThen]
  exact ⟨_, _, hr, hK _ _ (h.newO _ rfl rfl)⟩
theorem _root_.Go.Den.Sat.stA (h : Sat Γ L w) {k b t i : Nat} {cs : List Value} {v : Value} {a : Addr} {K : World → Prop} (hk : L[k]? = some (.blk b cs t)) (ha : a = ⟨b, i, none⟩) (hi : i < cs.length) (hv : v.oneCell' = true)
    (hK : ∀ w1, Sat Γ (L.set k (.blk b (cs.set i v) t)) w1 → K w1) : wrAt w a 0 [v] ∧ ∀ w1, w1 = setCells w a 0 [v] → K w1 := by
  subst ha; exact h.st hk hi hv hK

theorem c69 (h : Sat Γ L w) : Meets Try.prog 69 [vi 1, vi 0] w fun v' w' => ∃ a m, v' = .tuple #[ptr a, vi 0] ∧ Sat Γ (.blk a (pdC 1 0 0 m nilP 0) 146 :: .obj m (slotO [] 0) :: L) w' := by
  refine spec_of Try.func69 Try.ntmps69 Try.results69 rfl (by kernel_rfl) rfl ?_
  refine ⟨fun hc => (by cases hc), fun _ => ?_⟩
  refine h.mkMap fun m w1 hS => ?_
  refine hS.new fun a w1 hS => ?_
  exact ⟨a, m, rfl, hS⟩
theorem c69bad (w : World) : Meets Try.prog 69 [vi 0, vi 0] w fun v' w' => v' = .tuple #[nilP, vi 1] ∧ w' = w := by
  refine spec_of Try.func69 Try.ntmps69 Try.results69 rfl (by kernel_rfl) rfl ?_
  exact ⟨fun _ => ⟨rfl, rfl⟩, fun hc => (by cases hc)⟩
theorem c79 (w : World) (e : Int) : Meets Try.prog 79 [vi e] w fun v' w' => v' = .bool (decide (e = 7) || decide (e = 15) || decide (e = 4)) ∧ w' = w := by
  refine spec_of Try.func79 Try.ntmps79 Try.results79 rfl (by kernel_rfl) rfl ?_
  exact ⟨rfl, rfl⟩
theorem c29 (h : Sat Γ L w) {k j a m : Nat} {id epoch corr count : Int} {under : Value} {es : List (ME Slot)} {clock : Nat} (hk : L[k]? = some (.blk a (pdC id epoch corr m under count) 146)) (hj : L[j]? = some (.obj m (slotO es clock))) (t : ByteArray) (part : Int) :
    Meets Try.prog 29 [ptr a, .string t, vi part] w fun v' w' => v' = slotN es (t, part) ∧ w' = w := by
  refine spec_of Try.func29 Try.ntmps29 Try.results29 rfl (by kernel_rfl) rfl ?_
  refine ⟨fun h => (by cases h), fun _ => ?_⟩
  refine ⟨_, rfl, _, rfl, _, .map (some m), ⟨rfl, h.ld (k := k) hk rfl⟩, ?_⟩
  refine ⟨_, _, run_lookupE slotK Try.underlying143 (Try.zeroValue3 _) (h.obj hj) (t, part) false, ?_⟩
  refine ⟨?_, rfl⟩
  unfold slotN
  cases findE (t, part) es 0 <;> rfl
theorem c29nil (w : World) (t : ByteArray) (part : Int) : Meets Try.prog 29 [nilP, .string t, vi part] w fun v' w' => v' = vi 0 ∧ w' = w := by
  refine spec_of Try.func29 Try.ntmps29 Try.results29 rfl (by kernel_rfl) rfl ?_
  exact ⟨fun _ => ⟨rfl, rfl⟩, fun hc => (by cases hc)⟩
abbrev rq0 : List Value := rqC 0 0 ⟨#[]⟩ 0 0 0 nilS
theorem c27nil (h : Sat Γ L w) : Meets Try.prog 27 [nilP] w fun v' w' => v' = .tuple #[.agg rq0.toArray, .bool false] ∧ Sat Γ L w' := by
  refine spec_of Try.func27 Try.ntmps27 Try.results27 rfl (by kernel_rfl) rfl ?_
  refine h.new fun b2 w1 hS => ?_
  have hS : Sat Γ (.blk b2 rq0 42 :: L) w1 := hS
  refine ⟨⟨0, 0, none⟩, fun h => (by cases h), ⟨0, 0, none⟩, fun h => (by cases h), ⟨0, 0, none⟩, nilP, fun h => (by cases h), ?_⟩
  refine ⟨fun _ => ?_, fun h => (by cases h)⟩
  refine hS.stAll (vs := rq0) (k := 0) rfl rfl (one_of rfl) fun w3 hS => ?_
  exact ⟨_, ⟨rfl, hS.ldAll (k := 0) rfl⟩, rfl, hS.drop⟩
theorem c25nil (h : Sat Γ L w) (t : ByteArray) (part : Int) (v : Value) : Meets Try.prog 25 [nilP, .string t, vi part, v] w fun v' w' => v' = .tuple #[.agg rq0.toArray, vi 1] ∧ Sat Γ L w' := by
  refine spec_of Try.func25 Try.ntmps25 Try.results25 rfl (by kernel_rfl) rfl ?_
  refine h.new fun b8 w1 hS => ?_
  have hS : Sat Γ (.blk b8 rq0 42 :: L) w1 := hS
  refine ⟨fun _ => ?_, fun h => (by cases h)⟩
  refine ⟨_, _, ⟨rfl, rfl, hS.ldAll (k := 0) rfl⟩, ?_⟩
  refine hS.stAll (vs := rq0) (k := 0) rfl rfl (one_of rfl) fun w3 hS => ?_
  exact ⟨_, ⟨rfl, hS.ldAll (k := 0) rfl⟩, rfl, hS.drop⟩
theorem c28nil (h : Sat Γ L w) {xc code xo xl xg : Int} {mem lead : ByteArray} {names nums dv : Value} (hn : names.oneCell' = true) (hu : nums.oneCell' = true) (hd : dv.oneCell' = true) :
    Meets Try.prog 28 [nilP, .agg (rspC xc code xo xl xg mem lead names nums dv).toArray] w fun v' w' => v' = .tuple #[vi 0, vi 1] ∧ Sat Γ L w' := by
  refine spec_of Try.func28 Try.ntmps28 Try.results28 rfl (by kernel_rfl) rfl ?_
  refine h.new fun b3 w1 hS => ?_
  have hS : Sat Γ (.blk b3 (rspC xc code xo xl xg mem lead names nums dv) 52 :: L) w1 := hS
  refine ⟨_, rfl, _, _, ⟨rfl, cell_of (hS.blk (k := 0) rfl) rfl⟩, ?_⟩
  refine ⟨fun _ => ?_, fun h => (by cases h)⟩
  exact ⟨rfl, hS.drop⟩
theorem c113 (h : Sat Γ L w) {v : Value} {xs : Bytes} (hv : byt v xs ∈ Γ) (hl : xs.length ≤ 100000000000) : Meets Try.prog 113 [v] w fun v' w' => Sat (byt v' xs :: Γ) L w' := by
  obtain ⟨G, h1⟩ := h.byt hv
  refine (f113 w v G xs h1 hl).mono ?_
  rintro v' w' ⟨G', g1, g2, g3, _⟩
  exact h.newp g2 fun I => ⟨G', g1, fun b hb => .inr (g3 b hb)⟩
theorem c77 (h : Sat Γ L w) {a b : Int} {t : ByteArray} {part off most : Int} {v : Value} {p : Bytes} (hv : byt v p ∈ Γ) (hl : p.length ≤ 100000000000) : Meets Try.prog 77 [.agg (rqC a b t part off most v).toArray] w fun v' w' => ∃ u, v' = .agg (rqC a b t part off most u).toArray ∧ Sat (byt u p :: Γ) L w' := by
  obtain ⟨A, cp, rfl, hc1, hc2⟩ := h.bytVal hv
  refine spec_of Try.func77 Try.ntmps77 Try.results77 rfl (by kernel_rfl) rfl ?_
  refine h.new fun b1 w1 hS => ?_
  have hS : Sat Γ (.blk b1 (rqC a b t part off most (.slice A p.length cp)) 42 :: L) w1 := hS
  refine hS.new fun b2 w2 hS => ?_
  have hS : Sat Γ (.blk b2 rq0 42 :: .blk b1 (rqC a b t part off most (.slice A p.length cp)) 42 :: L) w2 := hS
  refine ⟨_, rfl, _, _, ⟨rfl, cell_of (hS.blk (k := 1) rfl) rfl⟩, ?_⟩
  refine (c113 hS hv hl).mono ?_
  rintro u w3 hS
  obtain ⟨U, cu, rfl, _⟩ := hS.bytVal mh
  refine ⟨_, rfl, hS.st (k := 1) (i := 12) rfl (by simp) rfl fun w4 hS => ?_⟩
  have hS : Sat _ (.blk b2 rq0 42 :: .blk b1 (rqC a b t part off most (.slice U p.length cu)) 42 :: L) w4 := hS
  refine ⟨_, _, ⟨rfl, rfl, hS.ldAll (k := 1) rfl⟩, ?_⟩
  refine hS.stAll (vs := rqC a b t part off most (.slice U p.length cu)) (k := 0) rfl rfl (one_of rfl) fun w3 hS => ?_
  exact ⟨_, ⟨rfl, hS.ldAll (k := 0) rfl⟩, _, rfl, hS.drop.drop⟩
def roundI (k n : Int) : Int := if Int.tmod k n < 0 then IntKind.i64.wrap (Int.tmod k n + n) else Int.tmod k n
theorem c60 (w : World) (k n : Int) (hn : n ≠ 0) : Meets Try.prog 60 [vi k, vi n] w fun v' w' => v' = vi (roundI k n) ∧ w' = w := by
  refine spec_of Try.func60 Try.ntmps60 Try.results60 rfl (by kernel_rfl) rfl ?_
  refine ⟨hn, ?_⟩
  unfold roundI
  refine ⟨fun hc => ?_, fun hc => ?_⟩
  · have hc : decide (Int.tmod k n < 0) = true := hc
    rw [if_pos (of_decide_eq_true hc)]
    exact ⟨rfl, rfl⟩
  · have hc : decide (Int.tmod k n < 0) = false := hc
    rw [if_neg (of_decide_eq_false hc)]
    exact ⟨rfl, rfl⟩
def blkX (n : Int) (i : Nat) : Int := IntKind.u8.wrap (IntKind.u8.wrap n + IntKind.u8.wrap (IntKind.u8.wrap (i : Int) * 7))
def blkB (size : Nat) (n : Int) : Bytes := (List.range size).map fun i => UInt8.ofNat (blkX n i).toNat
theorem c129 (h : Sat Γ L w) (size : Nat) (hs : size ≤ 1000) (n : Int) : Meets Try.prog 129 [vi size, vi n] w fun v' w' => Sat (byt v' (blkB size n) :: Γ) L w' := by
  refine spec_of Try.func129 Try.ntmps129 Try.results129 rfl (by kernel_rfl) rfl ?_
  obtain ⟨i, hi, hz, hs, hby⟩ := info_parts byteTy.info
  have hr := run_makeSlice (P := Try.prog) w 22 5 i (.int .u8 0) Try.underlying22 hi hz .i64 .i64 size size (by omega) (by omega) (by rw [hs]; simp; omega) (by rw [hby]; omega) (by omega)
  rw [hs, Int.toNat_natCast] at hr
  refine ⟨_, _, hr, ?_⟩
  generalize hw0 : w.alloc _ = w0
  have hS := h.newO _ rfl hw0.symm
  have hcs : (madeCells (Value.int IntKind.u8 0).cells (size * 1)) = (bvs (List.replicate size 0)).toArray := by
    apply Array.ext'
    apply List.ext_getElem?
    intro j
    simp only [madeCells, bvs, Nat.mul_one]
    by_cases hj : j < size
    · simp [hj, bv]
      show (#[(Value.int .u8 0)] : Array Value)[j % 1]! = _
      rw [Nat.mod_one]; rfl
    · simp [hj]
  rw [hcs] at hS
  have hS : Sat Γ (.blk w.heap.size (bvs (List.replicate size 0)) 5 :: L) w0 := hS
  generalize w.heap.size = b at *
  refine ⟨[6], by kernel_rfl, fun vs w1 => ∃ (j : Nat) (ys : Bytes), j ≤ size ∧ vs = [vi j] ∧ ys.length = size ∧ (∀ i, i < j → ys[i]? = (blkB size n)[i]?) ∧ Sat Γ (.blk b (bvs ys) 5 :: L) w1, fun vs _ => match vs with | [.int _ j] => (size - j).toNat | _ => 0, ⟨0, List.replicate size 0, by omega, rfl, by simp, fun i hi => by omega, hS⟩, ?_⟩
  rintro _ w1 ⟨j, ys, hj, rfl, hl, hy, hS⟩
  refine ⟨rfl, fun hlt => ?_, fun hlt => ?_⟩
  · have hlt : j < size := by
      have h : decide ((j : Int) < size) = true := hlt
      have := of_decide_eq_true h; omega
    have ei : IntKind.i64.wrap ((j : Int) + 1) = ((j + 1 : Nat) : Int) := w64 (by omega)
    have hX : ∃ x : UInt8, bv x = .int .u8 (blkX n j) ∧ (blkB size n)[j]? = some x := by
      refine ⟨UInt8.ofNat (blkX n j).toNat, ?_, by simp [blkB, hlt]⟩
      unfold bv
      have h1 : 0 ≤ blkX n j ∧ blkX n j < 256 := by unfold blkX; rw [wu8]; omega
      congr 1
      rw [UInt8.toNat_ofNat']
      omega
    obtain ⟨x, hx1, hx2⟩ := hX
    refine ⟨⟨b, 0, none⟩, ⟨rfl, by omega, by omega⟩, ?_⟩
    refine hS.stA (k := 0) (i := j) (v := .int .u8 (blkX n j)) rfl ?_ (by simp [bvs, hl, hlt]) rfl fun w2 hS => ?_
    · show (Addr.mk b 0 none).add ((j : Int).toNat * 1) = _
      rw [add_mk]; simp
    · rw [← hx1] at hS
      have he : (bvs ys).set j (bv x) = bvs (ys.set j x) := by simp [bvs, List.map_set]
      have hS : Sat Γ (.blk b ((bvs ys).set j (bv x)) 5 :: L) w2 := hS
      rw [he] at hS
      refine ⟨⟨j + 1, ys.set j x, hlt, ?_, by simp [hl], fun i hi => ?_, hS⟩, ?_⟩
      · show [vi (IntKind.i64.wrap ((j : Int) + 1))] = _
        rw [ei]
      · rw [List.getElem?_set]
        by_cases h : j = i
        · subst h; rw [if_pos rfl, if_pos (by omega), hx2]
        · rw [if_neg h]; exact hy i (by omega)
      · show (size - IntKind.i64.wrap ((j : Int) + 1)).toNat < (size - (j : Int)).toNat
        rw [ei]; omega
  · have hlt : ¬ j < size := by
      have h : decide ((j : Int) < size) = false := hlt
      have := of_decide_eq_false h; omega
    have he : ys = blkB size n := by
      apply List.ext_getElem?
      intro i
      by_cases hi : i < j
      · exact hy i hi
      · have : (blkB size n).length = size := by simp [blkB]
        rw [List.getElem?_eq_none (by omega), List.getElem?_eq_none (by omega)]
    subst he
    have hl2 : (blkB size n).length = size := by simp [blkB]
    have := hS.freeze (k := 0) (p := byt (.slice (some ⟨b, 0, none⟩) (blkB size n).length size) (blkB size n)) rfl fun I E ⟨h1, h2⟩ => ⟨some b, IsB.mk' (xs := blkB size n) h2 (by omega) (by simp [maxLen]; omega) (fun j x hj => by simp [bvs, hj]), fun b hb => by cases hb; exact .inr h1⟩
    rw [hl2] at this
    exact this.drop
end
end Go.Proofs.Yticgmchbihakkaa

/- What came in: []byte, []api.Record, []api.Batch. -/
import Derived.Test.YticgmchbihakkaaKD
import Derived.Test.YticgmchbihakkaaZ1
import Derived.Deep.Slices
set_option linter.unusedVariables false
set_option linter.unusedSimpArgs false
namespace Go.Proofs.Yticgmchbihakkaa
open Go Go.Den Go.ChangeShapes Go.WideShapes Go.ChangeAt Go.RowKit
set_option maxRecDepth 100000

section
variable {H : Type} {enc : TypeId × Value → H} {W : World}
/-- A []byte that came in, wherever it lies. -/
theorem open_bytF {fuel : Nat} {v : Value} {x : DataW H × List MemPlace} (hf : DataW.trod enc Try.prog W 0 (fun _ => true) true fuel 22 [v] = some x) : ∃ xs : Bytes, IsBD W (fun b => b < W.heap.size) v xs := by
  have hv : ∃ A n c, v = .slice A n c := by
    rcases open_ints Try.underlying22 Try.underlying5 cells5 hf with ⟨hcs, _⟩ | ⟨a, len', cap', zs, hcs, _⟩
    · exact ⟨_, _, _, by simpa using hcs⟩
    · exact ⟨_, _, _, by simpa using hcs⟩
  obtain ⟨A, n, c, rfl⟩ := hv
  rcases open_ints Try.underlying22 Try.underlying5 cells5 hf with ⟨hcs, hx⟩ | ⟨a, len', cap', zs, hcs, _, hl, hm, hz, hx, hcell, hwz⟩
  · simp at hcs
    obtain ⟨rfl, rfl, rfl⟩ := hcs
    exact ⟨[], none, .nil W, by simp⟩
  · simp at hcs
    obtain ⟨rfl, rfl, rfl⟩ := hcs
    simp only [if_true] at hz
    have hwf : ∀ n ∈ zs, 0 ≤ n ∧ n ≤ 255 := fun n hn => by simpa [Lit.wf, IntKind.min, IntKind.max, IntKind.signed, IntKind.bits] using hwz n hn
    refine ⟨(zs.take n).map fun n => UInt8.ofNat n.toNat, ?_⟩
    have hlen : ((zs.take n).map fun n => UInt8.ofNat n.toNat).length = n := by simp; omega
    by_cases h0 : n = 0
    · subst h0
      exact ⟨none, ⟨some a, c, by simp, by simp, by simp, hm, by simp, fun h => by simp at h⟩, by simp⟩
    · have hc0 := hcell 0 (by omega)
      have hs : a.spot = none := World.cell?_spot (by simpa [Addr.add] using hc0)
      obtain ⟨b, o, sp⟩ := a
      simp only at hs
      subst hs
      have hb : ∃ c t fz, W.heap[b]? = some (.cells c t fz) := by
        rw [add_mk] at hc0
        unfold World.cell? at hc0
        dsimp only at hc0
        split at hc0
        · rename_i c t fz hb; exact ⟨c, t, fz, hb⟩
        · cases hc0
      obtain ⟨cc, t, fz, hb⟩ := hb
      refine ⟨some b, ?_, by intro b' h; cases h; exact lt_of_blk hb⟩
      have := IsB.mk' (w := W) (b := b) (o := o) (cap := c) (xs := (zs.take n).map fun n => UInt8.ofNat n.toNat) hb (by rw [hlen]; omega) hm fun j x hj => ?_
      · rwa [hlen] at this
      · rw [List.getElem?_map, Option.map_eq_some_iff] at hj
        obtain ⟨n', hn, rfl⟩ := hj
        rw [List.getElem?_take] at hn
        split at hn
        · have hj := (List.getElem?_eq_some_iff.1 hn).1
          have hcj := hcell j hj
          have hg : zs.getD j 0 = n' := by simp [List.getD_eq_getElem?_getD, hn]
          rw [hg, add_mk] at hcj
          unfold World.cell? at hcj
          rw [hb] at hcj
          have hr := hwf n' (List.mem_of_getElem? hn)
          have hbv : bv (UInt8.ofNat n'.toNat) = .int .u8 n' := by
            rw [bv_ofNat]; congr 1; omega
          rw [hbv]
          simpa using hcj
        · cases hn

/-- A slice that came in, of elements that are opened one by one. -/
theorem open_rp {α : Type} (R : Rp α) {t e : TypeId} (ht : Try.prog.underlying t = some (.slice e)) (hc : Try.prog.cellsOf e = R.sz)
    (hel : ∀ (fuel : Nat) (cs : List Value) (x : DataW H × List MemPlace), DataW.trod enc Try.prog W 0 (fun _ => true) true fuel e cs = some x → ∃ a, R.ok W (fun b => b < W.heap.size) cs a)
    {fuel : Nat} {cs : List Value} {x : DataW H × List MemPlace} (h : DataW.trod enc Try.prog W 0 (fun _ => true) true fuel t cs = some x) :
    ∃ v xs, cs = [v] ∧ R.slOk v xs W fun b => b < W.heap.size := by
  rcases Deep.open_slice ht h with ⟨rfl, _⟩ | ⟨a, len, cap, m, n, D, Pl, rfl, hb, hl, hm, hmm, _, hx⟩
  · exact ⟨_, [], rfl, .nil⟩
  simp only [if_true] at hmm
  subst hmm
  rw [hc] at hx
  have rows : ∀ k, k ≤ len → ∃ cells xs, xs.length = k ∧ R.cells W (fun b => b < W.heap.size) xs cells ∧ ∀ j u, cells[j]? = some u → W.cell? (a.add j) = some u := by
    intro k
    induction k with
    | zero => exact fun _ => ⟨[], [], rfl, rfl, fun j u hj => by simp at hj⟩
    | succ k ih =>
      intro hk
      obtain ⟨cells, xs, h1, h2, h3⟩ := ih (by omega)
      obtain ⟨cs', g1, g2⟩ := hx k (by omega)
      obtain ⟨y, hy⟩ := hel _ _ _ g2
      obtain ⟨_, hlen, hcell⟩ := World.cells?_some g1
      refine ⟨cells ++ cs', xs ++ [y], by simp [h1], Rp.cells_snoc hy h2, fun j u hj => ?_⟩
      have hcl := Rp.cells_len h2
      by_cases hjl : j < cells.length
      · rw [List.getElem?_append_left hjl] at hj
        exact h3 j u hj
      · rw [List.getElem?_append_right (by omega)] at hj
        have hj' := (List.getElem?_eq_some_iff.1 hj).1
        have := hcell (j - cells.length) (by omega)
        rw [hj, add_add', hcl, h1, show k * R.sz + (j - k * R.sz) = j by rw [hcl, h1] at hjl; omega] at this
        exact this
  obtain ⟨cells, xs, h1, h2, h3⟩ := rows len (Nat.le_refl _)
  by_cases h0 : len = 0
  · subst h0
    have : xs = [] := List.eq_nil_of_length_eq_zero h1
    subst this
    exact ⟨_, [], rfl, some a, m, rfl, by simp, by simp, hm, fun h => absurd rfl h⟩
  have hcl := Rp.cells_len h2
  have hpos : 0 < cells.length := by
    rw [hcl, h1]
    exact Nat.mul_pos (by omega) R.pos
  have hc0 := h3 0 _ (List.getElem?_eq_getElem hpos)
  have hs : a.spot = none := World.cell?_spot (by simpa [Addr.add] using hc0)
  obtain ⟨b, o, sp⟩ := a
  simp only at hs
  subst hs
  have hbk : ∃ c t fz, W.heap[b]? = some (.cells c t fz) := by
    rw [add_mk] at hc0
    unfold World.cell? at hc0
    dsimp only at hc0
    split at hc0
    · rename_i c t fz hb; exact ⟨c, t, fz, hb⟩
    · cases hc0
  obtain ⟨cc, t', fz, hbk⟩ := hbk
  refine ⟨_, xs, rfl, some ⟨b, o, none⟩, m, by rw [h1], by simp, by omega, hm, fun _ => ⟨b, o, cc, t', fz, cells, rfl, lt_of_blk hbk, hbk, h2, fun j u hj => ?_⟩⟩
  have := h3 j u hj
  rw [add_mk] at this
  unfold World.cell? at this
  rw [hbk] at this
  simpa using this

theorem open_rec (fuel : Nat) (cs : List Value) (x : DataW H × List MemPlace) (h : DataW.trod enc Try.prog W 0 (fun _ => true) true fuel 47 cs = some x) : ∃ r, recR.ok W (fun b => b < W.heap.size) cs r := by
  obtain ⟨xs, n, _, _, hlen, hxl, hf⟩ := DataW.trod_struct Try.underlying47 h
  have k1 : Try.prog.cellsOf 3 = 1 := by kernel_rfl
  have k2 : Try.prog.cellsOf 4 = 1 := by kernel_rfl
  have k3 : Try.prog.cellsOf 22 = 1 := by kernel_rfl
  have k4 : Try.prog.cellsOf 47 = 6 := by kernel_rfl
  rw [k4] at hlen
  obtain ⟨c0, c1, c2, c3, c4, c5, rfl⟩ := six_of hlen
  have hxl : xs.length = 6 := hxl
  have f0 : DataW.trod enc Try.prog W 0 (fun _ => true) true n 3 ((([c0, c1, c2, c3, c4, c5] : List Value).drop 0).take (Try.prog.cellsOf 3)) = xs[0]? := hf 0 _ rfl
  have f1 : DataW.trod enc Try.prog W 0 (fun _ => true) true n 3 ((([c0, c1, c2, c3, c4, c5] : List Value).drop 1).take (Try.prog.cellsOf 3)) = xs[1]? := hf 1 _ rfl
  have f2 : DataW.trod enc Try.prog W 0 (fun _ => true) true n 4 ((([c0, c1, c2, c3, c4, c5] : List Value).drop 2).take (Try.prog.cellsOf 4)) = xs[2]? := hf 2 _ rfl
  have f3 : DataW.trod enc Try.prog W 0 (fun _ => true) true n 22 ((([c0, c1, c2, c3, c4, c5] : List Value).drop 3).take (Try.prog.cellsOf 22)) = xs[3]? := hf 3 _ rfl
  have f4 : DataW.trod enc Try.prog W 0 (fun _ => true) true n 4 ((([c0, c1, c2, c3, c4, c5] : List Value).drop 4).take (Try.prog.cellsOf 4)) = xs[4]? := hf 4 _ rfl
  have f5 : DataW.trod enc Try.prog W 0 (fun _ => true) true n 22 ((([c0, c1, c2, c3, c4, c5] : List Value).drop 5).take (Try.prog.cellsOf 22)) = xs[5]? := hf 5 _ rfl
  rw [k1, List.getElem?_eq_getElem (by omega)] at f0 f1
  rw [k2, List.getElem?_eq_getElem (by omega)] at f2 f4
  rw [k3, List.getElem?_eq_getElem (by omega)] at f3 f5
  obtain ⟨n0, e0, _⟩ := DataW.trod_int Try.underlying3 f0
  obtain ⟨n1, e1, _⟩ := DataW.trod_int Try.underlying3 f1
  obtain ⟨b2, e2, _⟩ := DataW.trod_bool Try.underlying4 f2
  obtain ⟨b4, e4, _⟩ := DataW.trod_bool Try.underlying4 f4
  obtain ⟨ks, hk⟩ := open_bytF f3
  obtain ⟨vs, hv⟩ := open_bytF f5
  have g0 : c0 = vi n0 := by simpa using e0
  have g1 : c1 = vi n1 := by simpa using e1
  have g2 : c2 = .bool b2 := by simpa using e2
  have g4 : c4 = .bool b4 := by simpa using e4
  clear e0 e1 e2 e4 f0 f1 f2 f3 f4 f5
  subst g0; subst g1; subst g2; subst g4
  exact ⟨⟨n0, n1, b2, ks, b4, vs⟩, c3, c5, rfl, hk, hv⟩
theorem open_bat (fuel : Nat) (cs : List Value) (x : DataW H × List MemPlace) (h : DataW.trod enc Try.prog W 0 (fun _ => true) true fuel 32 cs = some x) : ∃ b, batR.ok W (fun b => b < W.heap.size) cs b := by
  obtain ⟨xs, n, _, _, hlen, hxl, hf⟩ := DataW.trod_struct Try.underlying32 h
  have k1 : Try.prog.cellsOf 3 = 1 := by kernel_rfl
  have k3 : Try.prog.cellsOf 30 = 1 := by kernel_rfl
  have k4 : Try.prog.cellsOf 32 = 6 := by kernel_rfl
  rw [k4] at hlen
  obtain ⟨c0, c1, c2, c3, c4, c5, rfl⟩ := six_of hlen
  have hxl : xs.length = 6 := hxl
  have f0 : DataW.trod enc Try.prog W 0 (fun _ => true) true n 3 ((([c0, c1, c2, c3, c4, c5] : List Value).drop 0).take (Try.prog.cellsOf 3)) = xs[0]? := hf 0 _ rfl
  have f1 : DataW.trod enc Try.prog W 0 (fun _ => true) true n 3 ((([c0, c1, c2, c3, c4, c5] : List Value).drop 1).take (Try.prog.cellsOf 3)) = xs[1]? := hf 1 _ rfl
  have f2 : DataW.trod enc Try.prog W 0 (fun _ => true) true n 3 ((([c0, c1, c2, c3, c4, c5] : List Value).drop 2).take (Try.prog.cellsOf 3)) = xs[2]? := hf 2 _ rfl
  have f3 : DataW.trod enc Try.prog W 0 (fun _ => true) true n 3 ((([c0, c1, c2, c3, c4, c5] : List Value).drop 3).take (Try.prog.cellsOf 3)) = xs[3]? := hf 3 _ rfl
  have f4 : DataW.trod enc Try.prog W 0 (fun _ => true) true n 3 ((([c0, c1, c2, c3, c4, c5] : List Value).drop 4).take (Try.prog.cellsOf 3)) = xs[4]? := hf 4 _ rfl
  have f5 : DataW.trod enc Try.prog W 0 (fun _ => true) true n 30 ((([c0, c1, c2, c3, c4, c5] : List Value).drop 5).take (Try.prog.cellsOf 30)) = xs[5]? := hf 5 _ rfl
  rw [k1, List.getElem?_eq_getElem (by omega)] at f0 f1 f2 f3 f4
  rw [k3, List.getElem?_eq_getElem (by omega)] at f5
  obtain ⟨n0, e0, _⟩ := DataW.trod_int Try.underlying3 f0
  obtain ⟨n1, e1, _⟩ := DataW.trod_int Try.underlying3 f1
  obtain ⟨n2, e2, _⟩ := DataW.trod_int Try.underlying3 f2
  obtain ⟨n3, e3, _⟩ := DataW.trod_int Try.underlying3 f3
  obtain ⟨n4, e4, _⟩ := DataW.trod_int Try.underlying3 f4
  obtain ⟨v, rs, e5, hr⟩ := open_rp recR Try.underlying30 (by kernel_rfl) open_rec f5
  have g0 : c0 = vi n0 := by simpa using e0
  have g1 : c1 = vi n1 := by simpa using e1
  have g2 : c2 = vi n2 := by simpa using e2
  have g3 : c3 = vi n3 := by simpa using e3
  have g4 : c4 = vi n4 := by simpa using e4
  have g5 : c5 = v := by simpa using e5
  clear e0 e1 e2 e3 e4 e5 f0 f1 f2 f3 f4 f5
  subst g0; subst g1; subst g2; subst g3; subst g4; subst g5
  exact ⟨⟨n0, n1, n2, n3, n4, rs⟩, c5, rfl, isRecs_iff.2 hr⟩
theorem open_bats {v : Value} {d : DataW H} {p : List MemPlace} (h : DataW.Trod enc Try.prog W 0 (fun _ => true) true 56 v d p) (hv : ∃ A n c, v = .slice A n c) : ∃ bs : List Bat, batR.slOk v bs W fun b => b < W.heap.size := by
  obtain ⟨fuel, hf⟩ := h
  obtain ⟨u, bs, e, hb⟩ := open_rp batR Try.underlying56 (by kernel_rfl) open_bat hf
  obtain ⟨A, n, c, rfl⟩ := hv
  have e : [Value.slice A n c] = [u] := e
  cases e
  exact ⟨bs, hb⟩
end
end Go.Proofs.Yticgmchbihakkaa

/- With its own index, however sparse, an offset is found where a walk from the beginning finds it: the law OindexSeeks returns true for every input and leaves its arguments as they were. No condition. -/
import Derived.Test.YticgmchbihakkaaC13
import Derived.Test.YticgmchbihakkaaRows
import Derived.ProofKit
import Derived.OpenShut
set_option linter.unusedVariables false
set_option linter.unusedSimpArgs false
namespace Go.Proofs.Yticgmchbihakkaa
open Go Go.Den Go.ChangeShapes Go.WideShapes Go.ChangeAt Go.RowKit
set_option maxRecDepth 100000

theorem Try.own : ownKnob Try.prog.godebug = none := by kernel_rfl
theorem Try.laidOut : laidOutB Try.prog = true := by kernel_rfl
theorem cells5 : Try.prog.cellsOf 5 = 1 := by kernel_rfl

/-- A []byte that came in. -/
theorem open_byt {H : Type} {enc : TypeId × Value → H} {W : World} {base : Nat} {v : Value} {d : DataW H} {p : List MemPlace} (hval : Value.okWide Try.prog W .any base 22 v) (h : DataW.Trod enc Try.prog W 0 (fun _ => true) true 22 v d p) :
    ∃ xs : Bytes, IsBD W (fun b => b < W.heap.size) v xs := by
  obtain ⟨a1, len, cap, rfl⟩ := okWide_slice Try.underlying22 hval
  obtain ⟨fuel, hf⟩ := h
  rcases open_ints Try.underlying22 Try.underlying5 cells5 hf with ⟨hcs, hx⟩ | ⟨a, len', cap', zs, hcs, _, hl, hm, hz, hx, hcell, hwz⟩
  · simp [Value.cells] at hcs
    obtain ⟨rfl, rfl, rfl⟩ := hcs
    exact ⟨[], none, .nil W, by simp⟩
  · simp [Value.cells] at hcs
    obtain ⟨rfl, rfl, rfl⟩ := hcs
    simp only [if_true] at hz
    have hwf : ∀ n ∈ zs, 0 ≤ n ∧ n ≤ 255 := fun n hn => by simpa [Lit.wf, IntKind.min, IntKind.max, IntKind.signed, IntKind.bits] using hwz n hn
    refine ⟨(zs.take len).map fun n => UInt8.ofNat n.toNat, ?_⟩
    have hlen : ((zs.take len).map fun n => UInt8.ofNat n.toNat).length = len := by simp; omega
    by_cases h0 : len = 0
    · subst h0
      exact ⟨none, ⟨some a, cap, by simp, by simp, by simp, hm, by simp, fun h => by simp at h⟩, by simp⟩
    · have hc0 := hcell 0 (by omega)
      have hs : a.spot = none := World.cell?_spot (by simpa [Addr.add] using hc0)
      obtain ⟨b, o, sp⟩ := a
      simp only at hs
      subst hs
      have hb : ∃ c t fz, W.heap[b]? = some (.cells c t fz) := by
        rw [add_mk] at hc0
        unfold World.cell? at hc0
        dsimp only at hc0
        split at hc0
        · rename_i c t fz hb; exact ⟨c, t, fz, hb⟩
        · cases hc0
      obtain ⟨c, t, fz, hb⟩ := hb
      refine ⟨some b, ?_, by intro b' h; cases h; exact lt_of_blk hb⟩
      have := IsB.mk' (w := W) (b := b) (o := o) (cap := cap) (xs := (zs.take len).map fun n => UInt8.ofNat n.toNat) hb (by rw [hlen]; omega) hm fun j x hj => ?_
      · rwa [hlen] at this
      · rw [List.getElem?_map, Option.map_eq_some_iff] at hj
        obtain ⟨n, hn, rfl⟩ := hj
        rw [List.getElem?_take] at hn
        split at hn
        · have hj := (List.getElem?_eq_some_iff.1 hn).1
          have hcj := hcell j hj
          have hg : zs.getD j 0 = n := by simp [List.getD_eq_getElem?_getD, hn]
          rw [hg, add_mk] at hcj
          unfold World.cell? at hcj
          rw [hb] at hcj
          have hr := hwf n (List.mem_of_getElem? hn)
          have hbv : bv (UInt8.ofNat n.toNat) = .int .u8 n := by
            rw [bv_ofNat]; congr 1; omega
          rw [hbv]
          simpa using hcj
        · cases hn

/-- What the walk leaves, as the rows want it. -/
theorem old_below {W W' : World} (h : Agr (fun b => b < W.heap.size) W W') : Below W.heap.size W W' := ⟨h.os, h.tape, h.output, h.size, fun k hk => h.block k hk hk⟩

theorem trodAll_stays {H : Type} {enc : TypeId × Value → H} {W W' : World} (bel : Below W.heap.size W W') : ∀ {ts : List TypeId} {vs : List Value} {ds : List (DataW H)} {ps : List MemPlace}, (∀ t ∈ ts, Try.prog.readableRec t = true ∧ t < Try.prog.types.size) →
    DataW.TrodAll enc Try.prog W 0 (fun _ => true) true ts vs ds ps → (∀ x ∈ ps, x.block < W.heap.size) → DataW.TrodAll enc Try.prog W' 0 (fun b => decide (b < W.heap.size)) true ts vs ds ps
  | [], vs, ds, ps, _, h, _ => by
    obtain ⟨rfl, rfl, rfl⟩ := trodAll_nil h
    exact trodAll_mk0
  | t :: ts, vs, ds, ps, hts, h, hlt => by
    obtain ⟨v0, vs0, d0, ds0, p0, q0, rfl, rfl, rfl, h0, r0⟩ := trodAll_cons h
    exact trodAll_cons_mk (Below.trod Try.laidOut (hts t (by simp)).1 (hts t (by simp)).2 h0 bel fun x hx => hlt x (by simp [hx])) (trodAll_stays bel (fun t' ht' => hts t' (by simp [ht'])) r0 fun x hx => hlt x (by simp [hx]))

theorem oindexSeeks_lifted (os : Os) (started : os.Started) (H : Type) (enc : TypeId × Value → H) :
    ReturnsInHanded {} Try.checked os 3 .any (Rows.oindexSeeksSpec.pre6 enc Try.prog Try.f3 Rows.oindexSeeksRow.domain false) (Rows.oindexSeeksSpec.post enc Try.prog Try.f3 false true false false) := by
  refine returnsInHanded_of_change (C := Try.checked) Try.own started (by kernel_rfl) Try.func3
    (ChangeSpec.witness6 (enc := enc) (C := Try.checked) false ⟨#[], #[.slice none 0 0, .int .i64 0, .int .i64 0, .int .i64 0], []⟩ 8 (by kernel_rfl) (by kernel_rfl) (by kernel_rfl) (by kernel_rfl)) ?_
  intro W base args ds gs before hval0 hW hcnd _
  have hval : ∀ (j : Nat) t v, Try.f3.params[j]? = some t → args[j]? = some v → Value.okWide Try.prog W .any base t v := hval0
  have hW' := hW
  obtain ⟨p, q, hA0, hV, rfl, hfz, hnd⟩ := hW
  have hA : DataW.TrodAll enc Try.prog W 0 (fun _ => true) true Try.f3.params.toList args.toList ds p := hA0
  rw [Try.params3] at hA hval
  have hA2 := hA
  obtain ⟨v0, vs0, d0, ds0, p0, q0, hargs, rfl, rfl, h0, r0⟩ := trodAll_cons hA
  obtain ⟨v1, vs1, d1, ds1, p1, q1, rfl, rfl, rfl, h1, r1⟩ := trodAll_cons r0
  obtain ⟨v2, vs2, d2, ds2, p2, q2, rfl, rfl, rfl, h2, r2⟩ := trodAll_cons r1
  obtain ⟨v3, vs3, d3, ds3, p3, q3, rfl, rfl, rfl, h3, r3⟩ := trodAll_cons r2
  obtain ⟨rfl, rfl, rfl⟩ := trodAll_nil r3
  obtain rfl : args = #[v0, v1, v2, v3] := by cases args; simp_all
  obtain ⟨rfl, rfl⟩ := trodVars_none hV
  obtain ⟨xs, hb⟩ := open_byt (hval 0 22 v0 rfl rfl) h0
  obtain ⟨a1, rfl, rfl, rfl, w1⟩ := open_int Try.underlying3 (hval 1 3 v1 rfl rfl) h1
  obtain ⟨a2, rfl, rfl, rfl, w2⟩ := open_int Try.underlying3 (hval 2 3 v2 rfl rfl) h2
  obtain ⟨a3, rfl, rfl, rfl, w3⟩ := open_int Try.underlying3 (hval 3 3 v3 rfl rfl) h3
  simp only [List.append_nil] at hW'
  have hS : Sat (.old W :: [byt v0 xs]) [] W := Sat.start W fun p hp => by
    simp at hp; subst hp; exact hb
  refine (c3 hS (mt mh) a1 a2 a3).calls.mono fun e W' ⟨v, he, hv, hS'⟩ => ?_
  subst he
  subst hv
  have bel := old_below (hS'.isOld mh)
  exact ⟨_, rfl, _, _, _, [], _, [], hW', trodAll_cons_mk (shut_bool Try.underlying4 _) trodAll_mk0, trodAll_stays bel (by intro t ht; simp at ht; rcases ht with rfl | rfl | rfl | rfl <;> exact ⟨by kernel_rfl, of_decide_eq_true (by kernel_rfl)⟩) hA2 (fun x hx => by simpa using hW'.lt x (by simpa using hx)), rfl, bel.frame _, fun h => by cases h⟩

theorem oindexSeeks_holds : Rows.OindexSeeksSaid :=
  OpenClaim.holds_of_wide 3 Try.f3 rfl rfl rfl rfl rfl rfl rfl ⟨rfl, rfl, rfl, rfl, rfl⟩ rfl rfl rfl rfl rfl (by kernel_rfl) Try.func3 (by kernel_rfl)
    (of_decide_eq_true (by kernel_rfl)) (by unfold Func.isWrapper; first | (rw [if_pos (by decide +kernel)]; kernel_rfl) | (rw [if_neg (by decide +kernel)]; exact ⟨rfl, rfl⟩))
    (fun os started H enc _ => oindexSeeks_lifted os started H enc)
#print axioms oindexSeeks_holds
end Go.Proofs.Yticgmchbihakkaa

/- client.Reader.Got; SameRecord, SameRecords. -/
import Derived.Test.YticgmchbihakkaaK1
set_option linter.unusedVariables false
set_option linter.unusedSimpArgs false
namespace Go.Proofs.Yticgmchbihakkaa
open Go Go.Den
set_option maxRecDepth 100000

def lastOff (rs : List Rec) : Int := match rs.getLast? with
  | some r => r.off
  | none => 0
def gotB (off : Int) : Option Bat → List Rec × Int × Int
  | none => ([], 2, off)
  | some b => match b.recs with
    | [] => ([], 0, off)
    | r :: rs => if r.off < off then ([], 2, off) else (r :: rs, 0, IntKind.i64.wrap (lastOff (r :: rs) + 1))
def gotD (corr xc code : Int) (data : Bytes) (off : Int) : List Rec × Int × Int :=
  if corr = 0 ∨ xc ≠ corr then ([], 14, off) else if code ≠ 0 then ([], code, off) else if data.length = 0 then ([], 0, off) else gotB off (decD data)

section
variable {Γ : List PP} {L : List HP} {w : World}

theorem _root_.Go.Den.Sat.recAt (h : Sat Γ L w) {A : Option Addr} {n c : Nat} {rs : List Rec} (hm : recR.sl (.slice A n c) rs ∈ Γ) (i : Nat) (hi : i < n) :
    ∃ a r kv vv, A = some a ∧ rs[i]? = some r ∧ cellsAt w (a.add (i * 6)) 0 [vi r.off, vi r.time, .bool r.hk, kv, .bool r.hv, vv] ∧ Sat (byt kv r.key :: byt vv r.val :: Γ) L w := by
  obtain ⟨ow, h1, h2, h3⟩ := h.ex
  obtain ⟨a, r, cs, e1, e2, e3, e4⟩ := Rp.slOk.at (h2 _ hm) i hi
  obtain ⟨kv, vv, e5, hk, hv⟩ := e3
  subst e5
  refine ⟨a, r, kv, vv, e1, e2, e4, ow, h1, fun q hq => ?_, h3⟩
  rcases List.mem_cons.1 hq with rfl | hq
  · exact hk
  rcases List.mem_cons.1 hq with rfl | hq
  · exact hv
  · exact h2 q hq

set_option maxHeartbeats 400000 in
theorem c20 (h : Sat Γ L w) {k a : Nat} {t : ByteArray} {part off corr : Int} (hk : L[k]? = some (.blk a (rdC t part off corr) 137)) {xc code xo xl xg : Int} {mem lead : ByteArray} {names nums dv : Value} {data : Bytes} (hn : names.oneCell' = true) (hu : nums.oneCell' = true) (hv : byt dv data ∈ Γ) (hl : data.length ≤ 100000000000) {R : List Rec × Int × Int} (hR : R = gotD corr xc code data off) :
    Meets Try.prog 20 [ptr a, .agg (rspC xc code xo xl xg mem lead names nums dv).toArray] w fun v' w' => ∃ rv, v' = .tuple #[rv, vi R.2.1] ∧ Sat (recR.sl rv R.1 :: Γ) (L.set k (.blk a (rdC t part R.2.2 corr) 137)) w' := by
  obtain ⟨A, c, rfl, hc1, hc2⟩ := h.bytVal hv
  refine spec_of Try.func20 Try.ntmps20 Try.results20 rfl (by kernel_rfl) rfl ?_
  refine h.new fun b3 w1 hS => ?_
  have hS : Sat Γ (.blk b3 (rspC xc code xo xl xg mem lead names nums (.slice A data.length c)) 52 :: L) w1 := hS
  have hk1 : ∀ {P : HP}, (P :: L)[k + 1]? = some (.blk a (rdC t part off corr) 137) := fun {P} => hk
  have same : ∀ {u : World}, Sat Γ L u → Sat (recR.sl nilS [] :: Γ) (L.set k (.blk a (rdC t part off corr) 137)) u := fun hu => (hu.conv hk fun _ _ _ h => h).slNil recR
  unfold gotD at hR
  refine ⟨fun h => (by cases h), fun _ => ?_⟩
  have hS := hS.drew
  generalize hw2 : w1.drew = w2 at hS
  refine ⟨hs [0, 1, 2, 3, 4, 5, 6, 7, 8, 9, 10, 11, 12, 13, 14] .nil, fun u => u = w2, by kernel_rfl, by kernel_rfl, hw2, ?_⟩
  refine ⟨_, rfl, _, rfl, _, vi corr, ⟨rfl, fun u hu => by rw [hu]; exact hS.ld (k := k + 1) hk rfl⟩, _, fun _ => rfl, _, vi xc, fun _ => ⟨rfl, fun u hu => by rw [hu]; exact hS.ld (k := 0) rfl rfl⟩, _, fun _ => rfl, _, fun _ => rfl, _, vi corr, fun _ => ⟨rfl, fun u hu => by rw [hu]; exact hS.ld (k := k + 1) hk rfl⟩, ?_⟩
  rw [hw2]
  refine ⟨fun hc => ?_, fun hc => ?_⟩
  · have hc : (decide (corr = 0) || !decide (xc = corr)) = true := hc
    rw [if_pos (by simpa using hc)] at hR
    subst hR
    exact ⟨_, rfl, same hS.drop⟩
  have hc : (decide (corr = 0) || !decide (xc = corr)) = false := hc
  rw [if_neg (by simpa using hc)] at hR
  refine ⟨_, rfl, _, _, ⟨rfl, cell_of (hS.blk (k := 0) rfl) rfl⟩, ?_⟩
  refine ⟨fun hc => ?_, fun hc => ?_⟩
  · have hc : (!decide (code = 0)) = true := hc
    rw [if_pos (by simpa using hc)] at hR
    subst hR
    refine ⟨hs [0, 1, 2, 3] .nil, fun u => u = w2.drew, by kernel_rfl, by kernel_rfl, rfl, ?_⟩
    refine ⟨_, rfl, _, vi code, ⟨rfl, fun u hu => by rw [hu]; exact hS.drew.ld (k := 0) rfl rfl⟩, ?_⟩
    exact ⟨_, rfl, same hS.drew.drop⟩
  have hc : (!decide (code = 0)) = false := hc
  rw [if_neg (by simpa using hc)] at hR
  refine ⟨_, rfl, _, _, ⟨rfl, cell_of (hS.blk (k := 0) rfl) rfl⟩, ?_⟩
  refine ⟨fun hc => ?_, fun hc => ?_⟩
  · have hc : decide ((data.length : Int) = 0) = true := hc
    rw [if_pos (by simpa using hc)] at hR
    subst hR
    exact ⟨_, rfl, same hS.drop⟩
  have hc : decide ((data.length : Int) = 0) = false := hc
  rw [if_neg (by simpa using hc)] at hR
  refine ⟨_, rfl, _, _, ⟨rfl, cell_of (hS.blk (k := 0) rfl) rfl⟩, ?_⟩
  generalize hd : decD data = d at hR
  refine (c70 hS hv hl hd.symm).mono ?_
  rintro _ w3 ⟨us, rfl, hu1, hu2, hu3, hS⟩
  obtain ⟨y0, y1, y2, y3, y4, y5, rfl⟩ := six_of hu1
  refine hS.new fun b6 w4 hS => ?_
  have hS : Sat _ (.blk b6 zBat 32 :: .blk b3 (rspC xc code xo xl xg mem lead names nums (.slice A data.length c)) 52 :: L) w4 := hS
  refine hS.stAll (vs := [y0, y1, y2, y3, y4, y5]) (k := 0) rfl rfl hu2 fun w5 hS => ?_
  have hS : Sat _ (.blk b6 [y0, y1, y2, y3, y4, y5] 32 :: .blk b3 (rspC xc code xo xl xg mem lead names nums (.slice A data.length c)) 52 :: L) w5.drew := hS.drew
  cases d with
  | none =>
    have hz := hu3 rfl
    simp only [zBat, List.cons.injEq, and_true] at hz
    obtain ⟨rfl, rfl, rfl, rfl, rfl, rfl⟩ := hz
    refine ⟨hs [0, 1, 2, 3, 4, 5, 6, 7, 8, 9, 10, 11, 12, 13, 14, 15, 16, 17, 18, 19] .nil, fun u => u = w5.drew, by kernel_rfl, by kernel_rfl, rfl, ?_⟩
    refine ⟨⟨0, 0, none⟩, fun h => (by cases h), ⟨0, 0, none⟩, nilS, fun h => (by cases h), ⟨0, 0, none⟩, fun h _ => (by cases h), ⟨0, 0, none⟩, nilS, fun h _ => (by cases h), ⟨0, 0, none⟩, fun h _ => (by cases h), ⟨0, 0, none⟩, fun h _ => (by cases h), ⟨0, 0, none⟩, vi 0, fun h _ => (by cases h), ⟨0, 0, none⟩, fun h _ => (by cases h), ⟨0, 0, none⟩, fun h _ => (by cases h), ⟨0, 0, none⟩, vi 0, fun h _ => (by cases h), ?_⟩
    refine ⟨fun _ => ?_, fun h => (by cases h)⟩
    subst hR
    exact ⟨_, rfl, same (hS.tail.drop.drop)⟩
  | some b =>
    obtain ⟨rv, e, hS⟩ := hS.batO (b := b) mh
    simp only [List.cons.injEq, and_true] at e
    obtain ⟨rfl, rfl, rfl, rfl, rfl, rfl⟩ := e
    obtain ⟨Ar, cr, rfl, hr1, hr2, hr3⟩ := hS.slVal mh
    simp only [maxLen] at hr2
    unfold gotB at hR
    dsimp only at hR
    have hrest : ∀ {p1 p2 : PP} {u : World}, Sat (recR.sl (.slice Ar b.recs.length cr) b.recs :: p1 :: p2 :: Γ) (.blk b6 [vi b.base, vi b.last, vi b.prod, vi b.epoch, vi b.seq, .slice Ar b.recs.length cr] 32 :: .blk b3 (rspC xc code xo xl xg mem lead names nums (.slice A data.length c)) 52 :: L) u → Sat (recR.sl (.slice Ar b.recs.length cr) b.recs :: Γ) L u := fun {p1 p2 u} hu => hu.keep.keep.drop.drop
    cases hrs : b.recs with
    | nil =>
      rw [hrs] at hS hR hrest
      simp only [List.length_nil] at hS hrest
      dsimp only at hR
      refine ⟨hs [0, 1, 2, 3, 4, 5, 6, 7, 8, 9, 10, 11, 12, 13, 14, 15, 16, 17, 18, 19] .nil, fun u => u = w5.drew, by kernel_rfl, by kernel_rfl, rfl, ?_⟩
      refine ⟨_, fun _ => rfl, _, .slice Ar 0 cr, fun _ => ⟨rfl, fun u hu => by rw [hu]; exact hS.ld (k := 0) rfl rfl⟩, ⟨0, 0, none⟩, fun _ h => (by cases h), ⟨0, 0, none⟩, nilS, fun _ h => (by cases h), ⟨0, 0, none⟩, fun _ h => (by cases h), ⟨0, 0, none⟩, fun _ h => (by cases h), ⟨0, 0, none⟩, vi 0, fun _ h => (by cases h), ⟨0, 0, none⟩, fun _ h => (by cases h), ⟨0, 0, none⟩, fun _ h => (by cases h), ⟨0, 0, none⟩, vi 0, fun _ h => (by cases h), ?_⟩
      refine ⟨fun h => (by cases h), fun _ => ?_⟩
      refine ⟨_, rfl, _, _, ⟨rfl, cell_of (hS.blk (k := 0) rfl) rfl⟩, ?_⟩
      refine ⟨fun h => (by cases h), fun _ => ?_⟩
      refine ⟨_, rfl, _, _, ⟨rfl, cell_of (hS.blk (k := 0) rfl) rfl⟩, ?_⟩
      subst hR
      exact ⟨_, rfl, (hrest hS).conv hk fun _ _ _ h => h⟩
    | cons r rs =>
      rw [hrs] at hS hR hrest hr1
      dsimp only at hR
      obtain ⟨a0, r0, kv, vv, rfl, hr0, hcs, hS1⟩ := hS.recAt mh 0 (by simp)
      have hr0 : r = r0 := by simpa using hr0
      subst hr0
      have hlen : (r :: rs).length = rs.length + 1 := rfl
      refine ⟨hs [0, 1, 2, 3, 4, 5, 6, 7, 8, 9, 10, 11, 12, 13, 14, 15, 16, 17, 18, 19] .nil, fun u => u = w5.drew, by kernel_rfl, by kernel_rfl, rfl, ?_⟩
      refine ⟨_, fun _ => rfl, _, .slice (some a0) (r :: rs).length cr, fun _ => ⟨rfl, fun u hu => by rw [hu]; exact hS.ld (k := 0) rfl rfl⟩, _, fun _ _ => rfl, _, .slice (some a0) (r :: rs).length cr, fun _ _ => ⟨rfl, fun u hu => by rw [hu]; exact hS.ld (k := 0) rfl rfl⟩, a0, fun _ _ => ⟨rfl, by decide, by rw [hlen]; omega⟩, _, fun _ _ => rfl, _, vi r.off, fun _ _ => ⟨rfl, fun u hu => by rw [hu]; exact cellsAt_get hcs (i := 0) rfl⟩, _, fun _ _ => rfl, _, fun _ _ => rfl, _, vi off, fun _ _ => ⟨rfl, fun u hu => by rw [hu]; exact hS.ld (k := k + 2) hk rfl⟩, ?_⟩
      have hpos : decide ((0 : Int) < ((r :: rs).length : Nat)) = true := by rw [hlen]; simp
      refine ⟨fun hc => ?_, fun hc => ?_⟩
      · have hc : (decide ((0 : Int) < ((r :: rs).length : Nat)) && decide (r.off < off)) = true := hc
        rw [hpos, Bool.true_and] at hc
        rw [if_pos (of_decide_eq_true hc)] at hR
        subst hR
        exact ⟨_, rfl, same (hS.weak (Γ' := [_, _, _]) (L' := [_, _]))⟩
      have hc : (decide ((0 : Int) < ((r :: rs).length : Nat)) && decide (r.off < off)) = false := hc
      rw [hpos, Bool.true_and] at hc
      rw [if_neg (of_decide_eq_false hc)] at hR
      refine ⟨_, rfl, _, _, ⟨rfl, cell_of (hS.blk (k := 0) rfl) rfl⟩, ?_⟩
      refine ⟨fun _ => ?_, fun h => ?_⟩
      · have em : IntKind.i64.wrap (((r :: rs).length : Nat) - 1 : Int) = (((r :: rs).length : Nat) : Int) - 1 := w64 (by have hm := Nat.le_trans hr1 hr2; rw [hlen] at hm ⊢; omega)
        have emn : (IntKind.i64.wrap (((r :: rs).length : Nat) - 1 : Int)).toNat = rs.length := by rw [em, hlen]; omega
        obtain ⟨a1, r1, kv1, vv1, e1, hr1', hcs1, _⟩ := hS.recAt mh rs.length (by rw [hlen]; omega)
        have e1 : a0 = a1 := Option.some.inj e1
        subst e1
        have hlo : lastOff (r :: rs) = r1.off := by
          unfold lastOff
          rw [List.getLast?_eq_getElem?, hlen, Nat.add_sub_cancel, hr1']
        refine ⟨_, rfl, _, _, ⟨rfl, cell_of (hS.blk (k := 0) rfl) rfl⟩, a0, ⟨rfl, ?_, ?_⟩, _, rfl, _, vi r1.off, ⟨rfl, ?_⟩, _, rfl, _, rfl, ?_⟩
        · show 0 ≤ IntKind.i64.wrap (((r :: rs).length : Nat) - 1 : Int)
          rw [em, hlen]; omega
        · show IntKind.i64.wrap (((r :: rs).length : Nat) - 1 : Int) < _
          rw [em]; omega
        · show w5.drew.cell? ((a0.add ((IntKind.i64.wrap (((r :: rs).length : Nat) - 1 : Int)).toNat * 6)).add 0) = _
          rw [emn]
          exact cellsAt_get hcs1 (i := 0) rfl
        refine hS.st (k := k + 2) (i := 2) hk (by simp) rfl fun w6 hS => ?_
        refine ⟨_, rfl, _, _, ⟨rfl, cell_of (hS.blk (k := 0) rfl) rfl⟩, ?_⟩
        subst hR
        rw [hlo]
        exact ⟨_, rfl, hS.keep.keep.drop.drop⟩
      · have h : decide ((0 : Int) < ((r :: rs).length : Nat)) = false := h
        rw [hpos] at h; cases h
end
end Go.Proofs.Yticgmchbihakkaa

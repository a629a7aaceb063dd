/- written, Check, Encode of the program. -/
import Derived.Test.YticgmchbihakkaaB7
set_option linter.unusedVariables false
set_option linter.unusedSimpArgs false
namespace Go.Proofs.Yticgmchbihakkaa
open Go Go.Den
set_option maxRecDepth 100000

/-- A record that may be. -/
def GoodRec (b : Bat) (r : Rec) : Prop := b.base ≤ r.off ∧ r.off ≤ b.last ∧ 0 ≤ r.time ∧ r.time ≤ 1125899906842624 ∧ r.key.length ≤ 200 ∧ r.val.length ≤ 2000
/-- A batch that may be but for its length. -/
structure OkB (b : Bat) : Prop where
  head : headOk b = true
  few : b.recs.length ≤ 100
  recs : ∀ r ∈ b.recs, GoodRec b r

theorem goodRec_of {b : Bat} {last : Int} {r : Rec} (h : chkRec b last r = 0) : GoodRec b r := by
  unfold chkRec at h
  cases h1 : badRec b last r with
  | true => rw [h1] at h; cases h
  | false =>
    rw [h1] at h
    cases h2 : bigRec r with
    | true => rw [h2] at h; cases h
    | false =>
      simp only [badRec, bigRec, Bool.or_eq_false_iff, Bool.not_eq_false', Bool.and_eq_true, decide_eq_true_eq, decide_eq_false_iff_not] at h1 h2
      unfold GoodRec
      omega
theorem goodRecs_of {b : Bat} : ∀ {rs : List Rec} {last : Int}, chkRecs b last rs = 0 → ∀ r ∈ rs, GoodRec b r
  | [], _, _, r, hr => by cases hr
  | r0 :: rs, last, h, r, hr => by
    simp only [chkRecs] at h
    split at h
    · rename_i h0
      rcases List.mem_cons.1 hr with rfl | hr
      · exact goodRec_of h0
      · exact goodRecs_of h r hr
    · rename_i h0; exact absurd h h0

structure HeadR (b : Bat) : Prop where
  b0 : 0 ≤ b.base
  b1 : b.base ≤ 4611686018427387904
  l0 : b.base ≤ b.last
  l1 : b.last ≤ 4611686018427387904
  p0 : 0 ≤ b.prod
  p1 : b.prod ≤ 1099511627776
  e0 : 0 ≤ b.epoch
  e1 : b.epoch ≤ 32767
  s0 : 0 ≤ b.seq
  s1 : b.seq ≤ 2147483647
theorem headR_of {b : Bat} (h : headOk b = true) : HeadR b := by
  simp only [headOk, Bool.and_eq_true, decide_eq_true_eq] at h
  obtain ⟨⟨⟨⟨⟨h1, h2⟩, h3, h4⟩, h5, h6⟩, h7, h8⟩, h9, h10⟩ := h
  exact ⟨h1, h2, h3, h4, h5, h6, h7, h8, h9, h10⟩
theorem OkB.first {b : Bat} (h : OkB b) : 0 ≤ firstOf b ∧ firstOf b ≤ 1125899906842624 := by
  unfold firstOf
  split
  · omega
  · rename_i r rs e
    have := h.recs r (by rw [e]; simp)
    unfold GoodRec at this
    omega

theorem textB_len (has : Bool) (xs : Bytes) (h : xs.length ≤ 100000) : (textB has xs).length ≤ 10 + xs.length := by
  unfold textB
  cases has
  · have := putN_len (-1) (by unfold i64R; omega)
    show (putN (-1)).length ≤ _
    omega
  · show (putN _ ++ xs).length ≤ _
    have := putN_len (xs.length : Int) (by unfold i64R; omega)
    rw [List.length_append]
    omega
theorem times_rng {b : Bat} (h : OkB b) {r : Rec} (hr : r ∈ b.recs) : i64R (r.time - firstOf b) ∧ i64R (r.off - b.base) := by
  have h1 := h.recs r hr
  have h2 := h.first
  have h3 := headR_of h.head
  unfold GoodRec at h1
  unfold i64R
  have := h3.b0
  have := h3.l1
  constructor <;> omega
theorem bodyB_len {b : Bat} (h : OkB b) {r : Rec} (hr : r ∈ b.recs) : (bodyB (firstOf b) b.base r).length ≤ 2240 := by
  obtain ⟨h1, h2⟩ := times_rng h hr
  have h3 := h.recs r hr
  unfold GoodRec at h3
  have := putN_len _ h1
  have := putN_len _ h2
  have := textB_len r.hk r.key (by omega)
  have := textB_len r.hv r.val (by omega)
  simp only [bodyB, List.length_append]
  omega
theorem lineB_len {b : Bat} (h : OkB b) {r : Rec} (hr : r ∈ b.recs) : (lineB (firstOf b) b.base r).length ≤ 2250 := by
  have h1 := bodyB_len h hr
  have := putN_len ((bodyB (firstOf b) b.base r).length : Int) (by unfold i64R; omega)
  simp only [lineB, List.length_append]
  omega
theorem lines_len {b : Bat} (h : OkB b) (j : Nat) : (((b.recs.take j).map (lineB (firstOf b) b.base)).flatten).length ≤ 2250 * j := by
  induction j with
  | zero => simp
  | succ j ih =>
    rw [List.take_add_one]
    cases hj : b.recs[j]? with
    | none => simp; simp at ih; omega
    | some r =>
      have := lineB_len h (List.mem_of_getElem? hj)
      simp only [List.map_append, List.flatten_append, List.length_append, Option.toList_some, List.map_cons, List.map_nil, List.flatten_cons, List.flatten_nil, List.append_nil]
      omega
theorem headB_len (b : Bat) : (headB b).length = 34 := by simp [headB, fixedB_length]
theorem restB_len {b : Bat} (h : OkB b) : (restB b).length ≤ 225034 := by
  have h1 := lines_len h b.recs.length
  rw [List.take_length] at h1
  have h2 := h.few
  simp only [restB, List.length_append, headB_len]
  omega

theorem f128 (w : World) (vb : Value) (b : Bat) (hb : IsBat w (fun k => k < w.heap.size) vb b) (hok : OkB b) :
    Meets Try.prog 128 [vb] w fun v' w' => MadeB w w' v' (encB b) := by
  have hb0 := hb
  obtain ⟨rv, rfl, hrs⟩ := hb
  obtain ⟨A, c, rfl, hlen⟩ := hrs.val
  have H := headR_of hok.head
  have F := hok.first
  have few := hok.few
  refine spec_of Try.func128 Try.ntmps128 Try.results128 rfl (by kernel_rfl) rfl ?_
  intro b1 w1 e1 hw1
  obtain ⟨p1, p2, p3, p4⟩ := new_of e1 hw1
  have lds : ∀ u : World, u.heap[b1]? = some (.cells (batV b (.slice A b.recs.length c)).toArray 32 (0, 0)) → cellsAt u ⟨b1, 0, none⟩ 0 (batV b (.slice A b.recs.length c)) := fun u hu =>
    cellsAt_of fun j v hj => by rw [add_mk, Nat.zero_add]; exact cell_of hu (by simpa using hj)
  have hbw1 : IsBat w1 (fun k => k < w.heap.size) _ b := hb0.fr p2 (Apart.none _ _)
  refine ⟨_, _, ⟨rfl, rfl, lds w1 p1⟩, ?_⟩
  refine (f163 w1 _ _ b hbw1).mono ?_
  rintro _ w2 ⟨rfl, f2⟩
  intro a w3 e3 hw3
  obtain ⟨q1, q2, q3, q4⟩ := new_of e3 hw3
  have hb3 := q2.blk (f2.blk p1 (no_none _)) (no_none _)
  have z2 := f2.size
  have lt1 : b1 < w2.heap.size := lt_of_blk (f2.blk p1 (no_none _))
  have n0 : NW w2.heap.size w3 a [] := ⟨(· = a), ⟨_, q1, Own.nil _ _ _, fun k => ⟨.inl, fun h => h.elim id fun h => by cases h⟩⟩, fun k hk => by omega⟩
  have fl : ∀ {u u' : World}, u.heap[b1]? = some (.cells (batV b (.slice A b.recs.length c)).toArray 32 (0, 0)) → Fr (From w2.heap.size) u u' → u'.heap[b1]? = some (.cells (batV b (.slice A b.recs.length c)).toArray 32 (0, 0)) := fun hu hf => hf.blk hu fun h => by unfold From at h; omega
  refine ⟨hs [0, 1, 2, 3, 4, 5, 7, 9, 10, 12, 13, 15, 16, 18, 19, 20] (.one 6 true (.one 8 true (.one 11 true (.one 14 true (.one 17 true (.one 21 true .nil)))))), fun u => u.heap[b1]? = some (.cells (batV b (.slice A b.recs.length c)).toArray 32 (0, 0)), by kernel_rfl, by kernel_rfl, hb3, ?_⟩
  refine ⟨_, rfl, _, _, ⟨rfl, fun u hu => cell_of hu rfl⟩, _, rfl, _, _, ⟨rfl, fun u hu => cell_of hu rfl⟩, _, rfl, _, _, ⟨rfl, fun u hu => cell_of hu rfl⟩, _, rfl, _, _, ⟨rfl, fun u hu => cell_of hu rfl⟩, _, rfl, _, _, ⟨rfl, fun u hu => cell_of hu rfl⟩, _, rfl, _, _, ⟨rfl, fun u hu => cell_of hu rfl⟩, ?_⟩
  have x1 : IntKind.i64.wrap (b.last - b.base) = ((b.last - b.base).toNat : Int) := by have := H.b0; have := H.l0; have := H.l1; rw [w64 (by omega)]; omega
  have x2 : firstOf b = ((firstOf b).toNat : Int) := by omega
  have x3 : b.prod = (b.prod.toNat : Int) := by have := H.p0; omega
  have x4 : b.epoch = (b.epoch.toNat : Int) := by have := H.e0; omega
  have x5 : b.seq = (b.seq.toNat : Int) := by have := H.s0; omega
  have x6 : b.base = (b.base.toNat : Int) := by have := H.b0; omega
  have sz3 : w2.heap.size ≤ w3.drew.heap.size := by show _ ≤ w3.heap.size; omega
  have m1 := f114n w2.heap.size w3.drew a [] (b.last - b.base).toNat 8 n0.drew sz3 (by omega) (by omega) (by omega) (by have := H.b0; have := H.l1; omega) (by simp)
  rw [← x1] at m1
  refine m1.mono ?_
  rintro _ w4 ⟨rfl, n4, f4⟩
  refine ⟨fl (u := w3.drew) hb3 f4, ?_⟩
  have m2 := f114n w2.heap.size w4 a _ (firstOf b).toNat 8 n4 (Nat.le_trans sz3 f4.size) (by omega) (by omega) (by omega) (by omega) (by simp [fixedB_length])
  rw [← x2] at m2
  refine m2.mono ?_
  rintro _ w5 ⟨rfl, n5, f5⟩
  have hb5 := fl (fl (u := w3.drew) hb3 f4) f5
  refine ⟨hb5, ?_⟩
  have sz5 := Nat.le_trans (Nat.le_trans sz3 f4.size) f5.size
  have m3 := f114n w2.heap.size w5 a _ b.prod.toNat 8 n5 sz5 (by omega) (by omega) (by omega) (by have := H.p1; omega) (by simp [fixedB_length])
  rw [← x3] at m3
  refine m3.mono ?_
  rintro _ w6 ⟨rfl, n6, f6⟩
  have hb6 := fl hb5 f6
  refine ⟨hb6, ?_⟩
  have sz6 := Nat.le_trans sz5 f6.size
  have m4 := f114n w2.heap.size w6 a _ b.epoch.toNat 2 n6 sz6 (by omega) (by omega) (by have := H.e1; omega) (by have := H.e1; omega) (by simp [fixedB_length])
  rw [← x4] at m4
  refine m4.mono ?_
  rintro _ w7 ⟨rfl, n7, f7⟩
  have hb7 := fl hb6 f7
  refine ⟨hb7, ?_⟩
  have sz7 := Nat.le_trans sz6 f7.size
  have m5 := f114n w2.heap.size w7 a _ b.seq.toNat 4 n7 sz7 (by omega) (by omega) (by have := H.s1; omega) (by have := H.s1; omega) (by simp [fixedB_length])
  rw [← x5] at m5
  refine m5.mono ?_
  rintro _ w8 ⟨rfl, n8, f8⟩
  have hb8 := fl hb7 f8
  refine ⟨hb8, ?_⟩
  have sz8 := Nat.le_trans sz7 f8.size
  refine (f114n w2.heap.size w8 a _ b.recs.length 4 n8 sz8 (by omega) (by omega) (by omega) (by omega) (by simp [fixedB_length])).mono ?_
  rintro _ w9 ⟨rfl, n9, f9⟩
  have hb9 := fl hb8 f9
  refine ⟨hb9, ?_⟩
  have eh : ((((([] ++ fixedB (b.last - b.base).toNat 8) ++ fixedB (firstOf b).toNat 8) ++ fixedB b.prod.toNat 8) ++ fixedB b.epoch.toNat 2) ++ fixedB b.seq.toNat 4) ++ fixedB b.recs.length 4 = headB b := by simp [headB]
  rw [eh] at n9
  have f19 : Fr None w1 w9 := by
    have g3 : Fr None w1 w3.drew := ((f2.more q2).drew)
    have g9 : Fr (From w2.heap.size) w3.drew w9 := ((((f4.andThen f5 fun _ h => .inl h).andThen f6 fun _ h => .inl h).andThen f7 fun _ h => .inl h).andThen f8 fun _ h => .inl h).andThen f9 fun _ h => .inl h
    exact Fr.from g3 g9 z2
  refine (f115n w2.heap.size w9 a _ n9 (by rw [headB_len]; omega)).mono ?_
  rintro _ w10 ⟨Ah, ch, rfl, h10⟩
  have h10' := h10.from f19
  have hb10 := h10'.2.1.blk p1 (no_none _)
  refine ⟨_, rfl, _, _, ⟨rfl, cell_of hb10 rfl⟩, ?_⟩
  refine ⟨[6, 51], by kernel_rfl, fun vs u => ∃ sl, ∃ j : Nat, j ≤ b.recs.length ∧ vs = [sl, vi j] ∧ MadeB w1 u sl (headB b ++ ((b.recs.take j).map (lineB (firstOf b) b.base)).flatten), fun vs _ => match vs with | [_, .int _ j] => (b.recs.length - j).toNat | _ => 0, ⟨_, 0, by omega, rfl, by simpa using h10'⟩, ?_⟩
  rintro _ u ⟨sl, j, hj, rfl, hm⟩
  have hll := lines_len hok j
  refine ⟨rfl, fun hlt => ?_, fun hlt => ?_⟩
  · have hj' : j < b.recs.length := by simp at hlt; omega
    have hrsu := (hrs.fr p2 (Apart.none _ _)).fr hm.2.1 (Apart.none _ _)
    obtain ⟨ea, r, cs, i2, i3, i4, i5⟩ := hrsu.at j hj'
    subst i2
    obtain ⟨kA, kc, vA, vc, rfl, hk, hv⟩ := i4.val
    have hrm := List.mem_of_getElem? i3
    have hgr := hok.recs r hrm
    obtain ⟨hr1, hr2⟩ := times_rng hok hrm
    have hbl := bodyB_len hok hrm
    unfold GoodRec at hgr
    refine ⟨ea, ⟨rfl, Int.natCast_nonneg _, by omega⟩, _, _, ⟨rfl, rfl, i5⟩, ?_⟩
    intro b3 u1 d1 hu1
    obtain ⟨r1, r2, r3, r4⟩ := new_of d1 hu1
    refine ⟨sta_ok r1 rfl recs_one, fun u2 hu2 => ?_⟩
    obtain ⟨s1, s2, s3⟩ := sta_fx (vs := recL r kA kc vA vc) r1 rfl recs_one hu2
    have fu2 : Fr None u u2 := fr_new_set r2 s2 (by omega)
    have hbu2 := fu2.blk (hm.2.1.blk p1 (no_none _)) (no_none _)
    obtain ⟨Gk, hk1, hk2⟩ := hk
    obtain ⟨Gv, hv1, hv2⟩ := hv
    refine ⟨hs [0, 1, 2, 3, 5, 6, 7, 8, 9, 11, 12, 13, 14, 16, 17, 18, 19] (.one 4 true (.one 10 true (.one 15 true (.one 20 true (.one 21 true (.one 22 true (hs [23] .nil))))))), fun x => x.heap[b3]? = some (.cells (recL r kA kc vA vc).toArray 47 (0, 0)) ∧ x.heap[b1]? = some (.cells (batV b (.slice (some ea) b.recs.length c)).toArray 32 (0, 0)), by kernel_rfl, by kernel_rfl, ⟨s1, hbu2⟩, ?_⟩
    refine ⟨_, rfl, _, _, ⟨rfl, fun u hu => cell_of hu.1 rfl⟩, _, rfl, _, _, ⟨rfl, fun u hu => cell_of hu.1 rfl⟩, _, rfl, _, _, ⟨rfl, fun u hu => cell_of hu.2 rfl⟩, _, rfl, _, _, ⟨rfl, fun u hu => cell_of hu.1 rfl⟩, _, rfl, _, _, ⟨rfl, fun u hu => cell_of hu.1 rfl⟩, _, rfl, _, _, ⟨rfl, fun u hu => cell_of hu.1 rfl⟩, _, rfl, _, _, ⟨rfl, fun u hu => cell_of hu.1 rfl⟩, ?_⟩
    have SS : ∀ {x : World}, Fr None u2.drew x → (x.heap[b3]? = some (.cells (recL r kA kc vA vc).toArray 47 (0, 0)) ∧ x.heap[b1]? = some (.cells (batV b (.slice (some ea) b.recs.length c)).toArray 32 (0, 0))) := fun hf => ⟨hf.blk s1 (no_none _), hf.blk hbu2 (no_none _)⟩
    have y1 : IntKind.i64.wrap (r.time - firstOf b) = r.time - firstOf b := w64 hr1
    have y2 : IntKind.i64.wrap (r.off - b.base) = r.off - b.base := w64 hr2
    have o1 := f165 u2.drew _ hr1
    rw [← y1] at o1
    refine o1.mono ?_
    intro v3 u3 h3
    rw [y1] at h3
    have g3 := h3.2.1
    refine ⟨SS g3, ?_⟩
    have o2 := f165 u3 _ hr2
    rw [← y2] at o2
    refine o2.mono ?_
    intro v4 u4 h4
    rw [y2] at h4
    have g4 := g3.more h4.2.1
    refine ⟨SS g4, ?_⟩
    have kk : Fr None u u4 := (fu2.drew).more g4
    refine (f166 u4 r.hk _ Gk r.key (hk1.fr0 kk) (by omega)).mono ?_
    intro v5 u5 h5
    have g5 := g4.more h5.2.1
    refine ⟨SS g5, ?_⟩
    refine (f166 u5 r.hv _ Gv r.val (hv1.fr0 (kk.more h5.2.1)) (by omega)).mono ?_
    intro v6 u6 h6
    have g6 := g5.more h6.2.1
    refine ⟨SS g6, ?_⟩
    obtain ⟨A3, c3, rfl⟩ := h3.ex
    obtain ⟨A4, c4, rfl⟩ := h4.ex
    obtain ⟨A5, c5, rfl⟩ := h5.ex
    obtain ⟨A6, c6, rfl⟩ := h6.ex
    intro b7 u7 d7 hu7
    obtain ⟨t1, t2, t3, t4⟩ := new_of d7 hu7
    refine ⟨SS (g6.more t2), ?_⟩
    have hpl1 := putN_len _ hr1
    have hpl2 := putN_len _ hr2
    have htl1 := textB_len r.hk r.key (by omega)
    have htl2 := textB_len r.hv r.val (by omega)
    have hp0 : 0 < (putN (r.time - firstOf b)).length := List.length_pos_iff.2 (putU_ne _)
    refine (f164 u7 b7 _ _ _ _ _ _ _ _ _ _ _ _ (((h3.more h4.2.1).more h5.2.1).more h6.2.1 |>.isB.fr0 t2) ((h4.more h5.2.1).more h6.2.1 |>.isB.fr0 t2) (h5.more h6.2.1 |>.isB.fr0 t2) (h6.isB.fr0 t2) t1 hp0 (by omega)).mono ?_
    intro v8 u8 h8
    have g8 := (g6.more t2).more h8.2.1
    have eb : putN (r.time - firstOf b) ++ putN (r.off - b.base) ++ textB r.hk r.key ++ textB r.hv r.val = bodyB (firstOf b) b.base r := rfl
    rw [eb] at h8
    refine ⟨SS g8, ?_⟩
    have gu8 : Fr None u u8 := fu2.drew.more g8
    have hm8 := hm.more gu8
    obtain ⟨A8, c8, rfl⟩ := h8.ex
    refine (f165 u8 _ (show i64R ((bodyB (firstOf b) b.base r).length : Int) by unfold i64R; omega)).mono ?_
    intro v9 u9 h9
    obtain ⟨A9, c9, rfl⟩ := h9.ex
    have hpl3 := putN_len ((bodyB (firstOf b) b.base r).length : Int) (by unfold i64R; omega)
    obtain ⟨A', c', u10, z1, z2', z5⟩ := made_bytes2 (hm8.more h9.2.1) h9.isB (by rw [List.length_append, headB_len]; omega)
    refine ⟨_, u10, z1, ?_⟩
    have hB10 : IsB u10 (.slice A8 (bodyB (firstOf b) b.base r).length c8) _ (bodyB (firstOf b) b.base r) := (h8.isB.fr0 h9.2.1).fr z5 fun k hk _ hk' => by
      have e1 := h8.2.2 k hk
      have e2 := hm.lt k hk'
      have e3 := ((fu2.drew).more (g6.more t2)).size
      omega
    obtain ⟨A'', c'', u11, z3, z4⟩ := made_bytes z2' hB10 (by rw [List.length_append, List.length_append, headB_len]; omega)
    have e : headB b ++ ((b.recs.take (j + 1)).map (lineB (firstOf b) b.base)).flatten = headB b ++ ((b.recs.take j).map (lineB (firstOf b) b.base)).flatten ++ putN (bodyB (firstOf b) b.base r).length ++ bodyB (firstOf b) b.base r := by
      rw [List.take_add_one, i3]
      simp [lineB, List.append_assoc]
    have z4' := z4
    rw [← e] at z4'
    refine ⟨_, u11, z3, ⟨_, j + 1, by omega, ?_, z4'⟩, ?_⟩
    · show [_, vi (IntKind.i64.wrap _)] = _
      rw [w64 (by omega)]; rfl
    · show ((b.recs.length : Int) - IntKind.i64.wrap (_ : Int)).toNat < ((b.recs.length : Int) - j).toNat
      rw [w64 (by omega)]; omega
  · have hj' : j = b.recs.length := by simp at hlt; omega
    subst hj'
    rw [List.take_length] at hm hll
    have er : headB b ++ (b.recs.map (lineB (firstOf b) b.base)).flatten = restB b := rfl
    rw [er] at hm
    have hrl := restB_len hok
    obtain ⟨Ar, cr, rfl⟩ := hm.ex
    intro a2 u2 d1 hu2
    obtain ⟨r1, r2, r3, r4⟩ := new_of d1 hu2
    have hbu := hm.2.1.blk p1 (no_none _)
    have hbu2 := r2.blk hbu (no_none _)
    have n0' : NW u.heap.size u2 a2 [] := ⟨(· = a2), ⟨_, r1, Own.nil _ _ _, fun k => ⟨.inl, fun h => h.elim id fun h => by cases h⟩⟩, fun k hk => by omega⟩
    have k1 := f114n u.heap.size u2 a2 [] b.base.toNat 8 n0' (by omega) (by omega) (by omega) (by omega) (by have := H.b1; omega) (by simp)
    rw [← x6] at k1
    refine ⟨_, rfl, _, _, ⟨rfl, cell_of hbu2 rfl⟩, ?_⟩
    refine k1.mono ?_
    rintro _ u3 ⟨rfl, n3, f3⟩
    have l1 : IntKind.i64.wrap ((((restB b).length : Nat) : Int) + 4) = (((restB b).length + 4 : Nat) : Int) := by rw [w64 (by omega)]; omega
    have sz3' : u.heap.size ≤ u3.heap.size := Nat.le_trans (by omega) f3.size
    have k2 := f114n u.heap.size u3 a2 _ ((restB b).length + 4) 4 n3 sz3' (by omega) (by omega) (by omega) (by omega) (by simp [fixedB_length])
    rw [← l1] at k2
    refine k2.mono ?_
    rintro _ u4 ⟨rfl, n4', f4'⟩
    have g4 : Fr (From u.heap.size) u2 u4 := f3.andThen f4' fun _ h => .inl h
    have gu4 : Fr None u u4 := Fr.from r2 g4 (Nat.le_refl _)
    have hm4 := hm.more gu4
    intro b5 u5 d5 hu5
    obtain ⟨t1, t2, t3, t4⟩ := new_of d5 hu5
    refine (f167 u5 b5 _ _ (restB b) (hm4.isB.fr0 t2) t1).mono ?_
    rintro _ u5 ⟨rfl, rfl⟩
    have hs32 := sum32_lt (restB b)
    have l2 : IntKind.i64.wrap ((sum32 (restB b) : Nat) : Int) = ((sum32 (restB b) : Nat) : Int) := w64n _ (by omega)
    have n5' : NW u.heap.size u5 a2 ([] ++ fixedB b.base.toNat 8 ++ fixedB ((restB b).length + 4) 4) := by
      obtain ⟨D, ⟨sl', q1', q2', q3'⟩, q4'⟩ := n4'
      exact ⟨D, ⟨sl', t2.blk q1' (no_none _), q2'.fr t2 fun _ _ _ => id, q3'⟩, q4'⟩
    have sz5' : u.heap.size ≤ u5.heap.size := Nat.le_trans gu4.size t2.size
    have k3 := f114n u.heap.size u5 a2 _ (sum32 (restB b)) 4 n5' sz5' (by omega) (by omega) (by omega) (by omega) (by simp [fixedB_length])
    rw [← l2] at k3
    refine k3.mono ?_
    rintro _ u6 ⟨rfl, n6', f6'⟩
    refine (f115n u.heap.size u6 a2 _ n6' (by simp [fixedB_length])).mono ?_
    rintro _ u7 ⟨A7, c7, rfl, h7⟩
    have gu6 : Fr None u u6 := Fr.from (gu4.more t2) f6' (Nat.le_refl _)
    have h7' := h7.from gu6
    have gu7 := gu6.more h7.2.1
    obtain ⟨A8, c8, u8, z1, z2'⟩ := made_bytes (h7'.from (p2.trans hm.2.1 (fun _ _ h => h.elim) fun _ _ h => h.elim)) (hm.more gu7).isB (by simp [fixedB_length]; omega)
    refine ⟨_, u8, z1, ?_⟩
    have ee : encB b = ([] ++ fixedB b.base.toNat 8 ++ fixedB ((restB b).length + 4) 4 ++ fixedB (sum32 (restB b)) 4) ++ restB b := by simp [encB]
    rw [ee]
    exact z2'

theorem IsBat.here {w : World} {D : Nat → Prop} {v : Value} {b : Bat} (h : IsBat w D v b) : IsBat w (fun k => k < w.heap.size) v b := h.mono fun k hk _ => hk

theorem f127 (w : World) (D : Nat → Prop) (vb : Value) (b : Bat) (hb : IsBat w D vb b) :
    Meets Try.prog 127 [vb] w fun v' w' => v' = vi (chk b) ∧ Fr None w w' := by
  replace hb := hb.here
  have hb0 := hb
  obtain ⟨rv, rfl, hrs⟩ := hb
  obtain ⟨A, c, rfl, hlen⟩ := hrs.val
  refine spec_of Try.func127 Try.ntmps127 Try.results127 rfl (by kernel_rfl) rfl ?_
  intro b1 w1 e1 hw1
  obtain ⟨p1, p2, p3, p4⟩ := new_of e1 hw1
  have lds : ∀ u : World, u.heap[b1]? = some (.cells (batV b (.slice A b.recs.length c)).toArray 32 (0, 0)) → cellsAt u ⟨b1, 0, none⟩ 0 (batV b (.slice A b.recs.length c)) := fun u hu =>
    cellsAt_of fun j v hj => by rw [add_mk, Nat.zero_add]; exact cell_of hu (by simpa using hj)
  have hbw1 : IsBat w1 (fun k => k < w.heap.size) _ b := hb0.fr p2 (Apart.none _ _)
  refine ⟨_, rfl, _, _, ⟨rfl, cell_of p1 rfl⟩, ?_⟩
  refine (f161 w1 _ _ _).mono ?_
  rintro _ w1 ⟨rfl, rfl⟩
  refine ⟨_, fun _ => rfl, _, _, fun _ => ⟨rfl, cell_of p1 rfl⟩, _, fun _ => rfl, _, _, fun _ => ⟨rfl, cell_of p1 rfl⟩, .inr ⟨_, fun _ => f161 w1 _ _ _, ?_⟩⟩
  refine ⟨_, fun _ => rfl, _, _, fun _ => ⟨rfl, cell_of p1 rfl⟩, .inr ⟨_, fun _ => f161 w1 _ _ _, ?_⟩⟩
  refine ⟨_, fun _ => rfl, _, _, fun _ => ⟨rfl, cell_of p1 rfl⟩, .inr ⟨_, fun _ => f161 w1 _ _ _, ?_⟩⟩
  refine ⟨_, fun _ => rfl, _, _, fun _ => ⟨rfl, cell_of p1 rfl⟩, .inr ⟨_, fun _ => f161 w1 _ _ _, ?_⟩⟩
  refine ⟨_, fun _ => rfl, _, _, fun _ => ⟨rfl, cell_of p1 rfl⟩, _, fun _ _ => rfl, _, _, fun _ _ => ⟨rfl, cell_of p1 rfl⟩, _, fun _ _ _ => rfl, _, _, fun _ _ _ => ⟨rfl, cell_of p1 rfl⟩, ?_⟩
  refine ⟨fun h => ?_, fun h => ?_⟩
  · have h : badHead b = true := h
    refine ⟨?_, p2⟩
    simp only [chk, h]; rfl
  have h : badHead b = false := h
  refine ⟨_, rfl, _, _, ⟨rfl, cell_of p1 rfl⟩, ?_⟩
  refine ⟨fun h2 => ?_, fun h2 => ?_⟩
  · have h2 : 100 < b.recs.length := by simp at h2; omega
    refine ⟨?_, p2⟩
    simp only [chk, h, cond_false, if_pos h2]; rfl
  have h2 : ¬ 100 < b.recs.length := by simp at h2; omega
  refine ⟨_, rfl, _, _, ⟨rfl, cell_of p1 rfl⟩, ?_⟩
  let L : Nat → Int := fun j => match b.recs[j - 1]? with | some r => if j = 0 then -1 else r.off | none => -1
  refine ⟨[2, 4, 59], by kernel_rfl, fun vs u => Fr None w1 u ∧ ∃ (j : Nat) (l : Int), j ≤ b.recs.length ∧ vs = [vi 0, vi l, vi j] ∧ chkRecs b (-1) b.recs = chkRecs b l (b.recs.drop j), fun vs _ => match vs with | [_, _, .int _ j] => (b.recs.length - j).toNat | _ => 0, ⟨Fr.refl _ _, 0, -1, by omega, rfl, rfl⟩, ?_⟩
  rintro _ u ⟨fu, j, l, hj, rfl, hc⟩
  refine ⟨rfl, fun hlt => ?_, fun hlt => ?_⟩
  · have hj' : j < b.recs.length := by simp at hlt; omega
    have hrsu := (hrs.fr p2 (Apart.none _ _)).fr fu (Apart.none _ _)
    have hbu : IsBat u (fun k => k < w.heap.size) _ b := hbw1.fr fu (Apart.none _ _)
    obtain ⟨ea, r, cs, i2, i3, i4, i5⟩ := hrsu.at j hj'
    subst i2
    obtain ⟨kA, kc, vA, vc, rfl, hk, hv⟩ := i4.val
    rw [List.drop_eq_getElem_cons hj', show b.recs[j] = r by rw [List.getElem?_eq_getElem hj'] at i3; exact Option.some.inj i3] at hc
    refine ⟨ea, ⟨rfl, Int.natCast_nonneg _, by omega⟩, _, _, ⟨rfl, rfl, i5⟩, ?_⟩
    intro b3 u1 d1 hu1
    obtain ⟨r1, r2, r3, r4⟩ := new_of d1 hu1
    refine ⟨sta_ok r1 rfl recs_one, fun u2 hu2 => ?_⟩
    obtain ⟨s1, s2, s3⟩ := sta_fx (vs := recL r kA kc vA vc) r1 rfl recs_one hu2
    have fu2 : Fr None u u2 := fr_new_set r2 s2 (by omega)
    have pu2 := fu2.blk (fu.blk p1 (no_none _)) (no_none _)
    have ldr : cellsAt u2 ⟨b3, 0, none⟩ 0 (recL r kA kc vA vc) := cellsAt_of fun j v hj => by rw [add_mk, Nat.zero_add]; exact cell_of s1 (by simpa using hj)
    refine ⟨_, _, ⟨rfl, rfl, ldr⟩, _, _, ⟨rfl, rfl, lds u2 pu2⟩, ?_⟩
    refine (f162 u2 _ r b l _ _ (i4.fr fu2 (Apart.none _ _)) (hbu.fr fu2 (Apart.none _ _))).mono ?_
    rintro _ u3 ⟨rfl, f3⟩
    have fu3 : Fr None w1 u3 := (fu.more fu2).more f3
    refine ⟨fun he => ?_, fun he => ?_⟩
    · have he : chkRec b l r ≠ 0 := by simp at he; omega
      rw [chkRecs, if_neg he] at hc
      refine ⟨?_, p2.more fu3⟩
      simp only [chk, h, cond_false, if_neg h2]
      rw [if_neg (by rw [hc]; exact he), hc]; rfl
    · have he : chkRec b l r = 0 := by simp at he; omega
      rw [chkRecs, if_pos he] at hc
      have s1' := f3.blk s1 (no_none _)
      refine ⟨_, rfl, _, _, ⟨rfl, cell_of s1' rfl⟩, ⟨fu3, j + 1, r.off, by omega, ?_, hc⟩, ?_⟩
      · show [_, _, vi (IntKind.i64.wrap _)] = _
        rw [w64 (by omega)]; rfl
      · show ((b.recs.length : Int) - IntKind.i64.wrap (_ : Int)).toNat < ((b.recs.length : Int) - j).toNat
        rw [w64 (by omega)]; omega
  · have hj' : j = b.recs.length := by simp at hlt; omega
    subst hj'
    rw [List.drop_length, chkRecs] at hc
    have hbu : IsBat u (fun k => k < w.heap.size) _ b := hbw1.fr fu (Apart.none _ _)
    have hhd : headOk b = true := by
      unfold badHead at h
      cases hh : headOk b with
      | true => rfl
      | false => rw [hh] at h; cases h
    have hok : OkB b := ⟨hhd, by omega, goodRecs_of hc⟩
    refine ⟨_, _, ⟨rfl, rfl, lds u (fu.blk p1 (no_none _))⟩, ?_⟩
    refine (f128 u _ b hbu.here hok).mono ?_
    intro v2 u2 h3
    obtain ⟨A2, c2, rfl⟩ := h3.ex
    have fu2 := p2.more (fu.more h3.2.1)
    refine ⟨fun hl => ?_, fun hl => ?_⟩
    · have hl : 65536 < (encB b).length := by simp at hl; omega
      refine ⟨?_, fu2⟩
      simp only [chk, h, cond_false, if_neg h2, if_pos hc, if_pos hl]; rfl
    · have hl : ¬ 65536 < (encB b).length := by simp at hl; omega
      refine ⟨?_, fu2⟩
      simp only [chk, h, cond_false, if_neg h2, if_pos hc, if_neg hl]; rfl

theorem okB_of {b : Bat} (h : chk b = 0) : OkB b ∧ (encB b).length ≤ 65536 ∧ badHead b = false ∧ chkRecs b (-1) b.recs = 0 := by
  unfold chk at h
  cases hb : badHead b with
  | true => rw [hb] at h; cases h
  | false =>
    rw [hb, cond_false] at h
    split at h
    · cases h
    · rename_i h2
      split at h
      · rename_i h3
        split at h
        · cases h
        · rename_i h4
          refine ⟨⟨?_, by omega, goodRecs_of h3⟩, by omega, rfl, h3⟩
          unfold badHead at hb
          cases hh : headOk b with
          | true => rfl
          | false => rw [hh] at hb; cases hb
      · rename_i h3; exact absurd h h3

/-- What Encode gives. -/
def EncV (w w' : World) (v : Value) (b : Bat) : Prop :=
  ∃ u, v = .tuple #[u, vi (chk b)] ∧ Fr None w w' ∧ (if chk b = 0 then MadeB w w' u (encB b) else u = .slice none 0 0)

theorem f76 (w : World) (D : Nat → Prop) (vb : Value) (b : Bat) (hb : IsBat w D vb b) : Meets Try.prog 76 [vb] w fun v' w' => EncV w w' v' b := by
  replace hb := hb.here
  have hb0 := hb
  obtain ⟨rv, rfl, hrs⟩ := hb
  refine spec_of Try.func76 Try.ntmps76 Try.results76 rfl (by kernel_rfl) rfl ?_
  intro b1 w1 e1 hw1
  obtain ⟨p1, p2, p3, p4⟩ := new_of e1 hw1
  have lds : ∀ u : World, u.heap[b1]? = some (.cells (batV b rv).toArray 32 (0, 0)) → cellsAt u ⟨b1, 0, none⟩ 0 (batV b rv) := fun u hu =>
    cellsAt_of fun j v hj => by rw [add_mk, Nat.zero_add]; exact cell_of hu (by simpa using hj)
  have hbw1 : IsBat w1 (fun k => k < w.heap.size) _ b := hb0.fr p2 (Apart.none _ _)
  refine ⟨_, _, ⟨rfl, rfl, lds w1 p1⟩, ?_⟩
  refine (f127 w1 _ _ b hbw1).mono ?_
  rintro _ w2 ⟨rfl, f2⟩
  refine ⟨fun he => ?_, fun he => ?_⟩
  · have he : chk b ≠ 0 := by simp at he; omega
    exact ⟨_, rfl, p2.more f2, by rw [if_neg he]⟩
  · have he : chk b = 0 := by simp at he; omega
    refine ⟨_, _, ⟨rfl, rfl, lds w2 (f2.blk p1 (no_none _))⟩, ?_⟩
    refine (f128 w2 _ b (hbw1.fr f2 (Apart.none _ _)).here (okB_of he).1).mono ?_
    intro v3 w3 h3
    refine ⟨v3, ?_, p2.more (f2.more h3.2.1), by rw [if_pos he]; exact h3.from (p2.more f2)⟩
    rw [he]; rfl

end Go.Proofs.Yticgmchbihakkaa

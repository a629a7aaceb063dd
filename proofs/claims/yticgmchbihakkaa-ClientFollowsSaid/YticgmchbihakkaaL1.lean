/- The plain law: both ways of reading batches give the batch whose bytes they are. -/
import Derived.Test.YticgmchbihakkaaC10
set_option linter.unusedVariables false
set_option linter.unusedSimpArgs false
namespace Go.Proofs.Yticgmchbihakkaa
open Go Go.Den
set_option maxRecDepth 100000

theorem getGo_put : ∀ (u i acc : Nat) (ys : Bytes), i ≤ 9 → u < 2 ^ (64 - 7 * i) → (i = 0 ∨ u ≠ 0) → getGo (putU u ++ ys) i acc = some (acc + u * 2 ^ (7 * i), i + (putU u).length) := by
  intro u
  induction u using Nat.strongRecOn with
  | _ u ih =>
    intro i acc ys hi hu h0
    rw [putU]
    by_cases h : u < 128
    · rw [dif_pos h, List.singleton_append, getGo]
      have hc : (UInt8.ofNat u).toNat = u := by rw [u8_toNat]; omega
      rw [hc]
      have h9 : ¬ ((i = 9 ∧ 1 < u) ∨ 10 ≤ i) := by
        rintro (⟨rfl, h1⟩ | h1)
        · simp at hu; omega
        · omega
      rw [if_neg h9, if_neg (by omega), if_neg (by omega), Nat.mod_eq_of_lt h]
      rfl
    · rw [dif_neg h, List.cons_append, getGo]
      have hc : (UInt8.ofNat (u % 128 + 128)).toNat = u % 128 + 128 := by rw [u8_toNat]; omega
      rw [hc]
      have hi8 : i ≤ 8 := by
        rcases Nat.lt_or_ge i 9 with h9 | h9
        · omega
        · have : i = 9 := by omega
          subst this
          simp at hu; omega
      have hd : u / 128 < 2 ^ (64 - 7 * (i + 1)) := by
        rw [Nat.div_lt_iff_lt_mul (by decide)]
        have e : 2 ^ (64 - 7 * i) = 2 ^ (64 - 7 * (i + 1)) * 128 := by
          rw [show 64 - 7 * i = (64 - 7 * (i + 1)) + 7 by omega, Nat.pow_add]
        omega
      rw [if_neg (by omega), if_pos (by omega), ih (u / 128) (by omega) (i + 1) _ ys (by omega) hd (.inr (by omega))]
      have e7 : 2 ^ (7 * (i + 1)) = 2 ^ (7 * i) * 128 := by rw [show 7 * (i + 1) = 7 * i + 7 by omega, Nat.pow_add]
      have em : (u % 128 + 128) % 128 = u % 128 := by omega
      rw [em, e7]
      congr 2
      · have : u = 128 * (u / 128) + u % 128 := (Nat.div_add_mod u 128).symm
        generalize u / 128 = q at *
        generalize u % 128 = m at *
        subst this
        rw [Nat.add_mul, Nat.add_assoc]
        congr 1
        rw [Nat.add_comm, Nat.mul_comm 128 q, Nat.mul_assoc, Nat.mul_comm (2 ^ (7 * i)) 128]
      · simp; omega
theorem zag_zig (n : Int) (h : i64R n) : zagN (zigN n) = n := by
  unfold i64R at h
  unfold zagN zigN
  split <;> split <;> omega
theorem getN_put (n : Int) (h : i64R n) (ys : Bytes) : getN (putN n ++ ys) = some (n, (putN n).length) := by
  have hz := zigN_lt n h
  rw [getN, putN, getGo_put _ 0 0 ys (by omega) (by simpa using hz) (.inl rfl)]
  simp [zag_zig n h]
theorem rNum_put (n : Int) (h : i64R n) (ys : Bytes) : rNum (putN n ++ ys, 0) = (n, ys, 0) := by
  rw [rNum, if_neg (by simp)]
  simp only [getN_put n h]
  simp
theorem rBytes_put (most : Int) (xs ys : Bytes) (h : xs.length ≤ 100000) (hm : (xs.length : Int) ≤ most) : rBytes most (putN xs.length ++ xs ++ ys, 0) = (xs, ys, 0) := by
  have hr : i64R (xs.length : Int) := by unfold i64R; omega
  rw [rBytes, if_neg (by simp)]
  simp only [List.append_assoc, getN_put _ hr]
  rw [if_neg, if_neg (by omega)]
  · simp
  · simp; omega
theorem rOpt_put (has : Bool) (xs ys : Bytes) (h : xs.length ≤ 60000) (h0 : has = false → xs = []) : rOpt (textB has xs ++ ys) = (has, xs, ys, 0) := by
  have hm1 : i64R (-1) := by unfold i64R; omega
  have hr : i64R (xs.length : Int) := by unfold i64R; omega
  unfold rOpt textB
  cases has with
  | false =>
    rw [cond_false, getN_put _ hm1]
    simp only [Option.map_some, if_true]
    rw [rNum_put _ hm1, h0 rfl]
  | true =>
    rw [cond_true, List.append_assoc, getN_put _ hr]
    simp only [Option.map_some]
    rw [if_neg (by simp <;> omega), ← List.append_assoc, rBytes_put _ _ _ (by omega) (by omega)]
theorem optD_put (has : Bool) (xs ys : Bytes) (h : xs.length ≤ 60000) (h0 : has = false → xs = []) : optD (textB has xs ++ ys) = some (has, xs, ys) := by
  have hm1 : i64R (-1) := by unfold i64R; omega
  have hr : i64R (xs.length : Int) := by unfold i64R; omega
  unfold optD textB
  cases has with
  | false =>
    rw [cond_false]
    simp only [getN_put _ hm1]
    rw [if_neg (by simp <;> omega), if_pos (by omega), h0 rfl]
    simp
  | true =>
    rw [cond_true]
    simp only [List.append_assoc, getN_put _ hr]
    rw [if_neg (by simp <;> omega), if_neg (by omega)]
    simp
theorem gbD_put (xs ys : Bytes) (most : Int) (h : xs.length ≤ 100000) (hm : (xs.length : Int) ≤ most) : gbD (putN xs.length ++ xs ++ ys) most = (xs, ys, 0) := by
  have hr : i64R (xs.length : Int) := by unfold i64R; omega
  unfold gbD
  simp only [List.append_assoc, getN_put _ hr]
  rw [if_neg (by simp; omega), if_neg (by omega)]
  simp

/-- A record that may be in a batch whose first time is first, whose base is base. -/
structure RecFit (first base : Int) (r : Rec) : Prop where
  t : -1125899906842624 ≤ r.time - first ∧ r.time - first ≤ 1125899906842624
  f : -1125899906842624 ≤ first ∧ first ≤ 1125899906842624
  o : 0 ≤ r.off - base ∧ r.off - base ≤ 4611686018427387904
  b : 0 ≤ base ∧ base ≤ 4611686018427387904
  ol : r.off ≤ 4611686018427387904
  k : r.key.length ≤ 200
  v : r.val.length ≤ 2000
  hk : r.hk = false → r.key = []
  hv : r.hv = false → r.val = []

theorem recD_put {first base : Int} {r : Rec} (h : RecFit first base r) : recD (bodyB first base r) base first = some r := by
  have h1 : i64R (r.time - first) := by have := h.t; unfold i64R; omega
  have h2 : i64R (r.off - base) := by have := h.o; unfold i64R; omega
  have hb := h.b
  have hf := h.f
  have ho := h.o
  have ht := h.t
  have hol := h.ol
  have e1 : rNum (bodyB first base r, 0) = (r.time - first, putN (r.off - base) ++ textB r.hk r.key ++ textB r.hv r.val, 0) := by
    rw [bodyB, List.append_assoc, List.append_assoc, rNum_put _ h1, List.append_assoc]
  have e2 : rNum (putN (r.off - base) ++ textB r.hk r.key ++ textB r.hv r.val, 0) = (r.off - base, textB r.hk r.key ++ textB r.hv r.val, 0) := by
    rw [List.append_assoc, rNum_put _ h2]
  have e3 : rOpt (textB r.hk r.key ++ textB r.hv r.val) = (r.hk, r.key, textB r.hv r.val, 0) := rOpt_put _ _ _ (by have := h.k; omega) h.hk
  have e4 : rOpt (textB r.hv r.val) = (r.hv, r.val, [], 0) := by
    have := rOpt_put r.hv r.val [] (by have := h.v; omega) h.hv
    rwa [List.append_nil] at this
  unfold recD
  simp only [e1, e2, e3, e4]
  have w1 : IntKind.i64.wrap (base + (r.off - base)) = r.off := by rw [w64 (by omega)]; omega
  have w2 : IntKind.i64.wrap (first + (r.time - first)) = r.time := by rw [w64 (by omega)]; omega
  simp [w1, w2]
theorem rrD_put {first base : Int} {r : Rec} (h : RecFit first base r) : rrD (bodyB first base r) first base = some r := by
  have h1 : i64R (r.time - first) := by have := h.t; unfold i64R; omega
  have h2 : i64R (r.off - base) := by have := h.o; unfold i64R; omega
  have hb := h.b
  have hf := h.f
  have ho := h.o
  have ht := h.t
  have hol := h.ol
  have e1 : getN (bodyB first base r) = some (r.time - first, (putN (r.time - first)).length) := by
    rw [bodyB, List.append_assoc, List.append_assoc, getN_put _ h1]
  have e2 : (bodyB first base r).drop (putN (r.time - first)).length = putN (r.off - base) ++ (textB r.hk r.key ++ textB r.hv r.val) := by
    simp [bodyB]
  have e3 : getN (putN (r.off - base) ++ (textB r.hk r.key ++ textB r.hv r.val)) = some (r.off - base, (putN (r.off - base)).length) := getN_put _ h2 _
  have e4 : (bodyB first base r).drop ((putN (r.time - first)).length + (putN (r.off - base)).length) = textB r.hk r.key ++ textB r.hv r.val := by
    rw [← List.drop_drop, e2]; simp
  have e5 : optD (textB r.hk r.key ++ textB r.hv r.val) = some (r.hk, r.key, textB r.hv r.val) := optD_put _ _ _ (by have := h.k; omega) h.hk
  have e6 : optD (textB r.hv r.val) = some (r.hv, r.val, []) := by
    have := optD_put r.hv r.val [] (by have := h.v; omega) h.hv
    rwa [List.append_nil] at this
  have w1 : IntKind.i64.wrap (base + (r.off - base)) = r.off := by rw [w64 (by omega)]; omega
  have w2 : IntKind.i64.wrap (first + (r.time - first)) = r.time := by rw [w64 (by omega)]; omega
  unfold rrD
  simp only [e1, e2, e3, e4]
  rw [if_neg (by omega)]
  simp only [fld, e5, e6, w1, w2]
  have hk := h.hk
  have hv := h.hv
  obtain ⟨off, time, hk', key, hv', val⟩ := r
  cases hk' <;> cases hv' <;> simp_all [fldS]

theorem recsD_put {first base : Int} : ∀ (rs : List Rec) (acc : List Rec) (ys : Bytes), (∀ r ∈ rs, RecFit first base r ∧ (bodyB first base r).length ≤ 60000) → recsD base first rs.length ((rs.map (lineB first base)).flatten ++ ys) acc = some (acc ++ rs)
  | [], acc, ys, _ => by simp [recsD]
  | r :: rs, acc, ys, h => by
    obtain ⟨h1, h2⟩ := h r (by simp)
    have e : ((r :: rs).map (lineB first base)).flatten ++ ys = putN (bodyB first base r).length ++ bodyB first base r ++ ((rs.map (lineB first base)).flatten ++ ys) := by simp [lineB]
    rw [e, List.length_cons, recsD]
    simp only [rBytes_put 65536 _ _ (show (bodyB first base r).length ≤ 100000 by omega) (show ((bodyB first base r).length : Int) ≤ 65536 by omega), recD_put h1]
    rw [recsD_put rs _ ys fun r' hr' => h r' (by simp [hr'])]
    simp
theorem rRecs_put {first base : Int} : ∀ (rs : List Rec) (acc : List Rec) (ys : Bytes), (∀ r ∈ rs, RecFit first base r ∧ (bodyB first base r).length ≤ 60000) → rRecs first base rs.length ((rs.map (lineB first base)).flatten ++ ys) acc = some (acc ++ rs)
  | [], acc, ys, _ => by simp [rRecs]
  | r :: rs, acc, ys, h => by
    obtain ⟨h1, h2⟩ := h r (by simp)
    have e : ((r :: rs).map (lineB first base)).flatten ++ ys = putN (bodyB first base r).length ++ bodyB first base r ++ ((rs.map (lineB first base)).flatten ++ ys) := by simp [lineB]
    rw [e, List.length_cons, rRecs]
    simp only [gbD_put _ _ _ (show (bodyB first base r).length ≤ 100000 by omega) (show ((bodyB first base r).length : Int) ≤ ((putN ((bodyB first base r).length : Int) ++ bodyB first base r ++ ((rs.map (lineB first base)).flatten ++ ys)).length : Int) by simp; omega), rrD_put h1]
    rw [if_neg (by simp), rRecs_put rs _ ys fun r' hr' => h r' (by simp [hr'])]
    simp

theorem fixedB_succ (n k : Nat) : fixedB n (k + 1) = UInt8.ofNat (n >>> (8 * k)) :: fixedB n k := by
  unfold fixedB
  rw [List.range_succ_eq_map, List.map_cons, List.map_map]
  congr 1
  apply List.map_congr_left
  intro i hi
  have := List.mem_range.1 hi
  simp only [Function.comp]
  congr 3
  omega
theorem beN_fixed : ∀ (k n : Nat), beN (fixedB n k) = n % 256 ^ k
  | 0, n => by simp [fixedB, beN, Nat.mod_one]
  | k + 1, n => by
    rw [fixedB_succ, beN_cons, fixedB_length, beN_fixed k n, u8_toNat, Nat.shiftRight_eq_div_pow, show 2 ^ (8 * k) = 256 ^ k by rw [Nat.pow_mul], Nat.pow_succ, Nat.mod_mul, Nat.mul_comm (256 ^ k)]
    omega
theorem rFix_put (n k : Nat) (ys : Bytes) (h : n < 256 ^ k) (h1 : 1 ≤ k) (h8 : k = 8 → n < 2 ^ 63) : rFix (fixedB n k ++ ys, 0) k = (n, ys, 0) := by
  have hl : (fixedB n k).length = k := fixedB_length n k
  have ht : (fixedB n k ++ ys).take k = fixedB n k := List.take_left' hl
  have hd : (fixedB n k ++ ys).drop k = ys := List.drop_left' hl
  unfold rFix
  rw [if_neg (by simp), if_neg]
  · rw [ht, hd, beN_fixed, Nat.mod_eq_of_lt h]
  · rintro (h' | ⟨rfl, h'⟩)
    · simp [hl] at h'; omega
    · have h63 := h8 rfl
      rw [fixedB_succ] at h'
      simp only [List.cons_append, List.getD_cons_zero, u8_toNat, Nat.shiftRight_eq_div_pow] at h'
      omega

/-! ### Whole batches -/

theorem chk_parts {b : Bat} (h : chk b = 0) : OkB b ∧ (encB b).length ≤ 65536 ∧ chkRecs b (-1) b.recs = 0 := by
  unfold chk at h
  cases h1 : badHead b with
  | true => rw [h1] at h; cases h
  | false =>
    rw [h1, cond_false] at h
    by_cases h2 : 100 < b.recs.length
    · rw [if_pos h2] at h; cases h
    rw [if_neg h2] at h
    by_cases h3 : chkRecs b (-1) b.recs = 0
    · rw [if_pos h3] at h
      by_cases h4 : 65536 < (encB b).length
      · rw [if_pos h4] at h; cases h
      · simp only [badHead, Bool.or_eq_false_iff, Bool.not_eq_false'] at h1
        exact ⟨⟨h1.1, by omega, goodRecs_of h3⟩, by omega, h3⟩
    · rw [if_neg h3] at h; exact absurd h h3
theorem flags_of {b : Bat} : ∀ {rs : List Rec} {last : Int}, chkRecs b last rs = 0 → ∀ r ∈ rs, (r.hk = false → r.key = []) ∧ (r.hv = false → r.val = [])
  | [], _, _, r, hr => by cases hr
  | r0 :: rs, last, h, r, hr => by
    simp only [chkRecs] at h
    split at h
    · rename_i h0
      rcases List.mem_cons.1 hr with rfl | hr
      · unfold chkRec at h0
        cases h1 : badRec b last r with
        | true => rw [h1] at h0; cases h0
        | false =>
          simp only [badRec, Bool.or_eq_false_iff, Bool.and_eq_false_iff, Bool.not_eq_false', decide_eq_false_iff_not] at h1
          obtain ⟨⟨_, h2⟩, h3⟩ := h1
          refine ⟨fun hk => ?_, fun hv => ?_⟩
          · rw [hk] at h2
            have : ¬ (0 : Int) < r.key.length := by simpa using h2
            exact List.eq_nil_of_length_eq_zero (by omega)
          · rw [hv] at h3
            have : ¬ (0 : Int) < r.val.length := by simpa using h3
            exact List.eq_nil_of_length_eq_zero (by omega)
      · exact flags_of h r hr
    · rename_i h0; exact absurd h h0
theorem fits_of {b : Bat} (h : chk b = 0) : ∀ r ∈ b.recs, RecFit (firstOf b) b.base r ∧ (bodyB (firstOf b) b.base r).length ≤ 60000 := by
  intro r hr
  obtain ⟨h1, h2, h3⟩ := chk_parts h
  have g := h1.recs r hr
  unfold GoodRec at g
  have hd := headR_of h1.head
  have hb0 := hd.b0
  have hb1 := hd.b1
  have hl1 := hd.l1
  have hf := h1.first
  obtain ⟨f1, f2⟩ := flags_of h3 r hr
  exact ⟨⟨by omega, by omega, by omega, by omega, by omega, by omega, by omega, f1, f2⟩, by have := bodyB_len h1 hr; omega⟩

theorem encB_eq (b : Bat) : encB b = fixedB b.base.toNat 8 ++ (fixedB ((restB b).length + 4) 4 ++ (fixedB (sum32 (restB b)) 4 ++ (fixedB (b.last - b.base).toNat 8 ++ (fixedB (firstOf b).toNat 8 ++ (fixedB b.prod.toNat 8 ++ (fixedB b.epoch.toNat 2 ++ (fixedB b.seq.toNat 4 ++ (fixedB b.recs.length 4 ++ (b.recs.map (lineB (firstOf b) b.base)).flatten)))))))) := by
  rw [encB]
  conv => lhs; rhs; rw [restB, headB]
  simp only [List.append_assoc]
theorem encB_len (b : Bat) : (encB b).length = 16 + (restB b).length := by
  simp [encB, fixedB_length]; omega
theorem readD_enc {b : Bat} (h : chk b = 0) : readD (encB b) = some b := by
  obtain ⟨h1, h2, h3⟩ := chk_parts h
  have hd := headR_of h1.head
  have hb0 := hd.b0
  have hb1 := hd.b1
  have hl0 := hd.l0
  have hl1 := hd.l1
  have hp0 := hd.p0
  have hp1 := hd.p1
  have he0 := hd.e0
  have he1 := hd.e1
  have hs0 := hd.s0
  have hs1 := hd.s1
  have hf := h1.first
  have hfew := h1.few
  have hlen := encB_len b
  have hsum := sum32_lt (restB b)
  have hrd : readD (encB b) = readD (encB b) := rfl
  conv at hrd => rhs; unfold readD
  conv at hrd => rhs; rw [encB_eq]
  simp only [rFix_put b.base.toNat 8 _ (by omega) (by omega) (by omega), rFix_put ((restB b).length + 4) 4 _ (by omega) (by omega) (by omega), rFix_put (sum32 (restB b)) 4 _ (by omega) (by omega) (by omega), rFix_put (b.last - b.base).toNat 8 _ (by omega) (by omega) (by omega), rFix_put (firstOf b).toNat 8 _ (by omega) (by omega) (by omega),
    rFix_put b.prod.toNat 8 _ (by omega) (by omega) (by omega), rFix_put b.epoch.toNat 2 _ (by omega) (by omega) (by omega), rFix_put b.seq.toNat 4 _ (by omega) (by omega) (by omega), rFix_put b.recs.length 4 _ (by omega) (by omega) (by omega)] at hrd
  rw [if_neg (by omega)] at hrd
  have e1 : ((b.base.toNat : Nat) : Int) = b.base := by omega
  have e2 : (((firstOf b).toNat : Nat) : Int) = firstOf b := by omega
  have e3 : IntKind.i64.wrap (b.base + ((b.last - b.base).toNat : Nat)) = b.last := by rw [w64 (by omega)]; omega
  have e4 : ((b.prod.toNat : Nat) : Int) = b.prod := by omega
  have e5 : ((b.epoch.toNat : Nat) : Int) = b.epoch := by omega
  have e6 : ((b.seq.toNat : Nat) : Int) = b.seq := by omega
  have hrs := recsD_put b.recs [] [] (fits_of h)
  rw [List.append_nil] at hrs
  rw [e1, e2, hrs] at hrd
  simp only [List.nil_append, e3, e4, e5, e6] at hrd
  rw [hrd, ← encB_eq]
  have hb : (⟨b.base, b.last, b.prod, b.epoch, b.seq, b.recs⟩ : Bat) = b := rfl
  rw [hb, if_pos ⟨h, rfl⟩]

theorem part_of {A X B E : Bytes} (lo hi : Nat) (hE : E = A ++ (X ++ B)) (hA : A.length = lo) (hX : X.length = hi - lo) : (E.drop lo).take (hi - lo) = X := by
  subst hE; subst hA
  rw [List.drop_left' rfl, ← hX, List.take_left' rfl]

theorem rfQ_enc {b : Bat} (h : chk b = 0) : rfQ (encB b) = some b := by
  obtain ⟨h1, h2, h3⟩ := chk_parts h
  have hd := headR_of h1.head
  have hb0 := hd.b0
  have hb1 := hd.b1
  have hl0 := hd.l0
  have hl1 := hd.l1
  have hp0 := hd.p0
  have hp1 := hd.p1
  have he0 := hd.e0
  have he1 := hd.e1
  have hs0 := hd.s0
  have hs1 := hd.s1
  have hf := h1.first
  have hfew := h1.few
  have f0 : fx (encB b) 0 8 = b.base := by
    rw [fx, part_of (A := []) (X := fixedB b.base.toNat 8) 0 8 (by rw [encB_eq]; rfl) rfl (by simp [fixedB_length]), beN_fixed, w64 (by omega)]; omega
  have f1 : fx (encB b) 16 24 = b.last - b.base := by
    rw [fx, part_of (A := fixedB b.base.toNat 8 ++ (fixedB ((restB b).length + 4) 4 ++ fixedB (sum32 (restB b)) 4)) (X := fixedB (b.last - b.base).toNat 8) 16 24 (by rw [encB_eq]; simp only [List.append_assoc]; rfl) (by simp [fixedB_length]) (by simp [fixedB_length]), beN_fixed, w64 (by omega)]; omega
  have f2 : fx (encB b) 24 32 = firstOf b := by
    rw [fx, part_of (A := fixedB b.base.toNat 8 ++ (fixedB ((restB b).length + 4) 4 ++ (fixedB (sum32 (restB b)) 4 ++ fixedB (b.last - b.base).toNat 8))) (X := fixedB (firstOf b).toNat 8) 24 32 (by rw [encB_eq]; simp only [List.append_assoc]; rfl) (by simp [fixedB_length]) (by simp [fixedB_length]), beN_fixed, w64 (by omega)]; omega
  have f3 : fx (encB b) 32 40 = b.prod := by
    rw [fx, part_of (A := fixedB b.base.toNat 8 ++ (fixedB ((restB b).length + 4) 4 ++ (fixedB (sum32 (restB b)) 4 ++ (fixedB (b.last - b.base).toNat 8 ++ fixedB (firstOf b).toNat 8)))) (X := fixedB b.prod.toNat 8) 32 40 (by rw [encB_eq]; simp only [List.append_assoc]; rfl) (by simp [fixedB_length]) (by simp [fixedB_length]), beN_fixed, w64 (by omega)]; omega
  have f4 : fx (encB b) 40 42 = b.epoch := by
    rw [fx, part_of (A := fixedB b.base.toNat 8 ++ (fixedB ((restB b).length + 4) 4 ++ (fixedB (sum32 (restB b)) 4 ++ (fixedB (b.last - b.base).toNat 8 ++ (fixedB (firstOf b).toNat 8 ++ fixedB b.prod.toNat 8))))) (X := fixedB b.epoch.toNat 2) 40 42 (by rw [encB_eq]; simp only [List.append_assoc]; rfl) (by simp [fixedB_length]) (by simp [fixedB_length]), beN_fixed, w64 (by omega)]; omega
  have f5 : fx (encB b) 42 46 = b.seq := by
    rw [fx, part_of (A := fixedB b.base.toNat 8 ++ (fixedB ((restB b).length + 4) 4 ++ (fixedB (sum32 (restB b)) 4 ++ (fixedB (b.last - b.base).toNat 8 ++ (fixedB (firstOf b).toNat 8 ++ (fixedB b.prod.toNat 8 ++ fixedB b.epoch.toNat 2)))))) (X := fixedB b.seq.toNat 4) 42 46 (by rw [encB_eq]; simp only [List.append_assoc]; rfl) (by simp [fixedB_length]) (by simp [fixedB_length]), beN_fixed, w64 (by omega)]; omega
  have f6 : fx (encB b) 46 50 = b.recs.length := by
    rw [fx, part_of (A := fixedB b.base.toNat 8 ++ (fixedB ((restB b).length + 4) 4 ++ (fixedB (sum32 (restB b)) 4 ++ (fixedB (b.last - b.base).toNat 8 ++ (fixedB (firstOf b).toNat 8 ++ (fixedB b.prod.toNat 8 ++ (fixedB b.epoch.toNat 2 ++ fixedB b.seq.toNat 4))))))) (X := fixedB b.recs.length 4) 46 50 (by rw [encB_eq]; simp only [List.append_assoc]; rfl) (by simp [fixedB_length]) (by simp [fixedB_length]), beN_fixed, w64 (by omega)]; omega
  have f7 : (encB b).drop 50 = (b.recs.map (lineB (firstOf b) b.base)).flatten := by
    rw [show encB b = (fixedB b.base.toNat 8 ++ (fixedB ((restB b).length + 4) 4 ++ (fixedB (sum32 (restB b)) 4 ++ (fixedB (b.last - b.base).toNat 8 ++ (fixedB (firstOf b).toNat 8 ++ (fixedB b.prod.toNat 8 ++ (fixedB b.epoch.toNat 2 ++ (fixedB b.seq.toNat 4 ++ fixedB b.recs.length 4)))))))) ++ (b.recs.map (lineB (firstOf b) b.base)).flatten by rw [encB_eq]; simp only [List.append_assoc]]
    exact List.drop_left' (by simp [fixedB_length])
  have hbad : rfBad b.base (b.last - b.base) (firstOf b) = false := by
    simp only [rfBad, Bool.or_eq_false_iff, decide_eq_false_iff_not]
    rw [w64 (by omega)]
    omega
  have hB : rfB (encB b) b.recs = b := by
    rw [rfB, f0, f1, f3, f4, f5, w64 (by omega)]
    obtain ⟨base, last, prod, epoch, seq, recs⟩ := b
    simp only [Bat.mk.injEq, and_true, true_and]
    omega
  have hrs := rRecs_put b.recs [] [] (fits_of h)
  rw [List.append_nil] at hrs
  unfold rfQ
  rw [f0, f1, f2, if_neg (by rw [hbad]; simp), f6, if_neg (by omega), f7, Int.toNat_natCast, hrs]
  simp only [List.nil_append]
  rw [hB, if_pos ⟨h, rfl⟩]

/-- What both say: the bytes begin with just those of a batch that may be. -/
def Begins (p : Bytes) (b : Bat) (n : Nat) : Prop := chk b = 0 ∧ n = (encB b).length ∧ p.take n = encB b

theorem firstD_of {p : Bytes} {b : Bat} {n : Nat} (h : firstD p = some (b, n)) : Begins p b n := by
  have hn := firstD_len h
  unfold firstD at h
  dsimp only at h
  split at h
  · cases h
  cases hr : readD (p.take (12 + (rFix (rFix (p.take 12, 0) 8).2 4).1)) with
  | none => rw [hr] at h; cases h
  | some b' =>
    rw [hr] at h
    simp only [Option.map_some, Option.some.injEq, Prod.mk.injEq] at h
    obtain ⟨rfl, hn'⟩ := h
    rw [hn'] at hr
    unfold readD at hr
    dsimp only at hr
    split at hr
    · cases hr
    split at hr
    · cases hr
    split at hr
    · rename_i hc
      cases hr
      refine ⟨hc.1, ?_, hc.2.symm⟩
      rw [hc.2]; simp; omega
    · cases hr
theorem rfD_of {p : Bytes} {b : Bat} {n : Nat} (h : rfD p = some (b, n)) : Begins p b n := by
  have hn := rfD_len h
  unfold rfD at h
  split at h
  · cases h
  split at h
  · cases h
  cases hr : rfQ (p.take (12 + (fx p 8 12).toNat)) with
  | none => rw [hr] at h; cases h
  | some b' =>
    rw [hr] at h
    simp only [Option.map_some, Option.some.injEq, Prod.mk.injEq] at h
    obtain ⟨rfl, hn'⟩ := h
    rw [hn'] at hr
    unfold rfQ at hr
    split at hr
    · cases hr
    split at hr
    · cases hr
    split at hr
    · cases hr
    split at hr
    · rename_i hc
      cases hr
      refine ⟨hc.1, ?_, hc.2.symm⟩
      rw [hc.2]; simp; omega
    · cases hr

theorem Begins.firstD {p : Bytes} {b : Bat} {n : Nat} (h : Begins p b n) : firstD p = some (b, n) := by
  obtain ⟨h1, h2, h3⟩ := h
  obtain ⟨g1, g2, g3⟩ := chk_parts h1
  have hd := headR_of g1.head
  have hb0 := hd.b0
  have hb1 := hd.b1
  have hl := encB_len b
  have hle : n ≤ p.length := by
    have := congrArg List.length h3
    simp at this; omega
  have h34 : 34 ≤ (restB b).length := by
    simp [restB, headB_len]
  have ht : p.take 12 = fixedB b.base.toNat 8 ++ (fixedB ((restB b).length + 4) 4 ++ []) := by
    have : p.take 12 = (p.take n).take 12 := by rw [List.take_take, Nat.min_eq_left (by omega)]
    rw [this, h3, encB_eq, ← List.append_assoc, List.append_nil]
    exact List.take_left' (by simp [fixedB_length])
  unfold Yticgmchbihakkaa.firstD
  dsimp only
  rw [ht, rFix_put _ 8 _ (by omega) (by omega) (by omega), rFix_put _ 4 _ (by omega) (by omega) (by omega)]
  dsimp only
  rw [if_neg (by omega)]
  have e : 12 + ((restB b).length + 4) = n := by omega
  rw [e, h3, readD_enc h1]
  rfl
theorem Begins.rfD {p : Bytes} {b : Bat} {n : Nat} (h : Begins p b n) : rfD p = some (b, n) := by
  obtain ⟨h1, h2, h3⟩ := h
  obtain ⟨g1, g2, g3⟩ := chk_parts h1
  have hl := encB_len b
  have hle : n ≤ p.length := by
    have := congrArg List.length h3
    simp at this; omega
  have h34 : 34 ≤ (restB b).length := by
    simp [restB, headB_len]
  have hx : fx p 8 12 = ((restB b).length + 4 : Nat) := by
    have e : (p.drop 8).take (12 - 8) = ((p.take n).drop 8).take (12 - 8) := by
      rw [List.drop_take, List.take_take, Nat.min_eq_left (by omega)]
    rw [fx, e, h3, part_of (A := fixedB b.base.toNat 8) (X := fixedB ((restB b).length + 4) 4) 8 12 (encB_eq b) (by simp [fixedB_length]) (by simp [fixedB_length]), beN_fixed, w64 (by omega)]; omega
  unfold Yticgmchbihakkaa.rfD
  rw [if_neg (by omega), hx, if_neg (by omega), Int.toNat_natCast]
  have e : 12 + ((restB b).length + 4) = n := by omega
  rw [e, h3, rfQ_enc h1]
  rfl
theorem rfD_eq (p : Bytes) : rfD p = firstD p := by
  cases h : firstD p with
  | some x => exact (firstD_of (b := x.1) (n := x.2) h).rfD
  | none =>
    cases h' : rfD p with
    | none => rfl
    | some x =>
      have := (rfD_of (b := x.1) (n := x.2) h').firstD
      rw [h] at this; cases this

theorem allGo_eq : ∀ (k : Nat) (xs : Bytes) (at0 : Nat) (lo : Option Int) (last : Int), xs.length < k → (∀ b : Bat, 0 ≤ b.base → ((match lo with | some l => decide (b.base ≤ l) | none => false) = decide (b.base ≤ last))) → allGo rfD k xs at0 lo = allF xs at0 last := by
  intro k
  induction k with
  | zero => intro xs at0 lo last h; omega
  | succ k ih =>
    intro xs at0 lo last h hlo
    rw [allGo, allF_eq, rfD_eq]
    cases hf : firstD xs with
    | none => rfl
    | some x =>
      obtain ⟨b, n⟩ := x
      have hn := firstD_len hf
      have hb := (headR_of (chk_parts (firstD_of hf).1).1.head).b0
      dsimp only
      rw [ih _ _ _ b.last (by simp; omega) (fun _ _ => rfl)]
      have hx : ∀ (x : Bool) (A : List (Nat × Bat)), x = decide (b.base ≤ last) → (if x = true then [] else A) = if b.base ≤ last then [] else A := by
        intro x A hx
        subst hx
        by_cases hc : b.base ≤ last <;> simp [hc]
      refine hx _ _ ?_
      cases lo <;> exact hlo b hb
theorem rallB_eq (p : Bytes) : rallB p = allB p := allGo_eq _ _ _ _ _ (by omega) fun b hb => by simp; omega

end Go.Proofs.Yticgmchbihakkaa

/- Encode of the document's answer. -/
import Derived.Test.YticgmchbihakkaaB8
set_option linter.unusedVariables false
set_option linter.unusedSimpArgs false
namespace Go.Proofs.Yticgmchbihakkaa
open Go Go.Den
set_option maxRecDepth 100000

theorem cell_fr0 {w w' : World} {a : Addr} {v : Value} (h : w.cell? a = some v) (hf : Fr None w w') : w'.cell? a = some v := by
  cases ho : w.heap[a.block]? with
  | none => simp [World.cell?, ho] at h
  | some o =>
    have := hf.blk ho (no_none _)
    unfold World.cell? at h ⊢
    rw [this]
    rw [ho] at h
    exact h
theorem cellsAt_fr0 {w w' : World} {a : Addr} (hf : Fr None w w') : ∀ {vs : List Value} {k : Nat}, cellsAt w a k vs → cellsAt w' a k vs
  | [], _, _ => trivial
  | v :: vs, k, h => ⟨cell_fr0 h.1 hf, cellsAt_fr0 hf h.2⟩

theorem f125 (w : World) (D : Nat → Prop) (cs : List Value) (r : Rec) (first base : Int) (h : IsRec w D cs r) (h1 : i64R (r.time - first)) (h2 : i64R (r.off - base)) (hk : r.key.length ≤ 100000) (hv : r.val.length ≤ 100000) :
    Meets Try.prog 125 [.agg cs.toArray, vi first, vi base] w fun v' w' => MadeB w w' v' (bodyB first base r) := by
  obtain ⟨kA, kc, vA, vc, rfl, ⟨Gk, hk1, _⟩, ⟨Gv, hv1, _⟩⟩ := h.val
  refine spec_of Try.func125 Try.ntmps125 Try.results125 rfl (by kernel_rfl) rfl ?_
  intro b1 w1 e1 hw1
  obtain ⟨p1, p2, p3, p4⟩ := new_of e1 hw1
  refine ⟨hs [0, 1, 2, 3, 5, 6, 7, 8] (.one 4 true (.one 9 true (.one 10 true (hs [11] .nil)))), fun u => u.heap[b1]? = some (.cells (recL r kA kc vA vc).toArray 47 (0, 0)), by kernel_rfl, by kernel_rfl, p1, ?_⟩
  refine ⟨_, rfl, _, _, ⟨rfl, fun u hu => cell_of hu rfl⟩, _, rfl, _, _, ⟨rfl, fun u hu => cell_of hu rfl⟩, ?_⟩
  have y1 : IntKind.i64.wrap (r.time - first) = r.time - first := w64 h1
  have y2 : IntKind.i64.wrap (r.off - base) = r.off - base := w64 h2
  have l1 := putN_len _ h1
  have l2 := putN_len _ h2
  have l3 := putN_len (-1) (by unfold i64R; omega)
  have o1 := f159 w1.drew _ h1
  rw [← y1] at o1
  refine o1.mono ?_
  intro v2 w2 m2
  rw [y1] at m2
  have hb2 := m2.2.1.blk p1 (no_none _)
  refine ⟨hb2, ?_⟩
  have o2 := f159 w2 _ h2
  rw [← y2] at o2
  refine o2.mono ?_
  intro v3 w3 m3
  rw [y2] at m3
  obtain ⟨A2, c2, rfl⟩ := m2.ex
  obtain ⟨A3, c3, rfl⟩ := m3.ex
  have hb3 := m3.2.1.blk hb2 (no_none _)
  refine ⟨hb3, ?_⟩
  obtain ⟨A4, c4, w4, z1, m4, z3⟩ := made_bytes2 (m2.more m3.2.1) m3.isB (by omega)
  refine ⟨_, w4, z1, ?_⟩
  have hb4 := m4.2.1.blk p1 (no_none _)
  refine ⟨hb4, ?_⟩
  have m4' : MadeB w1 w4 _ _ := m4.from (Fr.refl None w1).drew
  have lk : (textB r.hk r.key).length ≤ 10 + r.key.length := textB_len _ _ hk
  have lv : (textB r.hv r.val).length ≤ 10 + r.val.length := textB_len _ _ hv
  -- the value, behind the key
  have rest : ∀ (A5 : Option Addr) (c5 : Nat) (w5 : World) (xs : Bytes), xs.length ≤ 1000000 → MadeB w1 w5 (.slice A5 xs.length c5) xs → xs ++ textB r.hv r.val = bodyB first base r →
      (r.hv = true → Meets Try.prog 124 [.slice vA r.val.length vc] w5 fun v' w' => ∃ A c w6, (Builtin.append_ #[22, 22] 22 #[.slice A5 xs.length c5, v']).run Try.prog w' = .ok (.slice A (xs.length + (putN r.val.length ++ r.val).length) c) w6 ∧ MadeB w w6 (.slice A (xs.length + (putN r.val.length ++ r.val).length) c) (bodyB first base r)) ∧
      (r.hv = false → Meets Try.prog 159 [vi (-1)] w5 fun v' w' => ∃ A c w6, (Builtin.append_ #[22, 22] 22 #[.slice A5 xs.length c5, v']).run Try.prog w' = .ok (.slice A (xs.length + (putN (-1)).length) c) w6 ∧ MadeB w w6 (.slice A (xs.length + (putN (-1)).length) c) (bodyB first base r)) := by
    intro A5 c5 w5 xs hxs m5 he
    refine ⟨fun ht => ?_, fun ht => ?_⟩
    · refine (f124 w5 _ Gv r.val ((hv1.fr0 p2).fr0 m5.2.1) (by omega)).mono ?_
      intro v6 w6 m6
      obtain ⟨A6, c6, rfl⟩ := m6.ex
      have : (textB r.hv r.val) = putN r.val.length ++ r.val := by rw [ht]; rfl
      rw [← this] at m6 ⊢
      obtain ⟨A7, c7, w7, y1, y2⟩ := made_bytes (m5.more m6.2.1) m6.isB (by omega)
      exact ⟨A7, c7, w7, y1, he ▸ y2.from p2⟩
    · refine (f159 w5 (-1) (by unfold i64R; omega)).mono ?_
      intro v6 w6 m6
      obtain ⟨A6, c6, rfl⟩ := m6.ex
      have : (textB r.hv r.val) = putN (-1) := by rw [ht]; rfl
      rw [this] at he
      obtain ⟨A7, c7, w7, y1, y2⟩ := made_bytes (m5.more m6.2.1) m6.isB (by omega)
      exact ⟨A7, c7, w7, y1, he ▸ y2.from p2⟩
  refine ⟨_, rfl, _, _, ⟨rfl, cell_of hb4 rfl⟩, ?_⟩
  refine ⟨fun ht => ?_, fun ht => ?_⟩
  · have ht : r.hk = true := ht
    refine ⟨_, rfl, _, _, ⟨rfl, cell_of hb4 rfl⟩, ?_⟩
    refine (f124 w4 _ Gk r.key ((hk1.fr0 p2).fr0 m4'.2.1) (by omega)).mono ?_
    intro v5 w5 m5
    obtain ⟨A5, c5, rfl⟩ := m5.ex
    have et : (textB r.hk r.key) = putN r.key.length ++ r.key := by rw [ht]; rfl
    rw [et] at lk
    obtain ⟨A6, c6, w6, z4, m6⟩ := made_bytes (m4'.more m5.2.1) m5.isB (by simp only [List.length_append] at *; omega)
    refine ⟨_, w6, z4, ?_⟩
    have hb6 := m6.2.1.blk p1 (no_none _)
    have em : ∀ (n : Nat), n = (putN (r.time - first) ++ putN (r.off - base) ++ (putN r.key.length ++ r.key)).length → MadeB w1 w6 (.slice A6 n c6) (putN (r.time - first) ++ putN (r.off - base) ++ (putN r.key.length ++ r.key)) → True := fun _ _ _ => trivial
    have en : (putN (r.time - first) ++ putN (r.off - base)).length + (putN r.key.length ++ r.key).length = (putN (r.time - first) ++ putN (r.off - base) ++ (putN r.key.length ++ r.key)).length := by simp only [List.length_append]
    rw [en] at m6
    obtain ⟨q1, q2⟩ := rest A6 c6 w6 _ (by simp only [List.length_append] at *; omega) m6 (by rw [bodyB, et])
    refine ⟨_, rfl, _, _, ⟨rfl, cell_of hb6 rfl⟩, ?_⟩
    rw [en]
    refine ⟨fun hu => ⟨_, rfl, _, _, ⟨rfl, cell_of hb6 rfl⟩, ?_⟩, fun hu => ?_⟩
    · refine (q1 hu).mono ?_
      rintro v w' ⟨A, c, w6, t1, t2⟩
      exact ⟨_, w6, t1, t2⟩
    · refine (q2 hu).mono ?_
      rintro v w' ⟨A, c, w6, t1, t2⟩
      exact ⟨_, w6, t1, t2⟩
  · have ht : r.hk = false := ht
    refine (f159 w4 (-1) (by unfold i64R; omega)).mono ?_
    intro v5 w5 m5
    obtain ⟨A5, c5, rfl⟩ := m5.ex
    have et : (textB r.hk r.key) = putN (-1) := by rw [ht]; rfl
    obtain ⟨A6, c6, w6, z4, m6⟩ := made_bytes (m4'.more m5.2.1) m5.isB (by simp only [List.length_append] at *; omega)
    refine ⟨_, w6, z4, ?_⟩
    have hb6 := m6.2.1.blk p1 (no_none _)
    have en : (putN (r.time - first) ++ putN (r.off - base)).length + (putN (-1)).length = (putN (r.time - first) ++ putN (r.off - base) ++ putN (-1)).length := by simp only [List.length_append]
    rw [en] at m6
    obtain ⟨q1, q2⟩ := rest A6 c6 w6 _ (by simp only [List.length_append] at *; omega) m6 (by rw [bodyB, et])
    refine ⟨_, rfl, _, _, ⟨rfl, cell_of hb6 rfl⟩, ?_⟩
    rw [en]
    refine ⟨fun hu => ⟨_, rfl, _, _, ⟨rfl, cell_of hb6 rfl⟩, ?_⟩, fun hu => ?_⟩
    · refine (q1 hu).mono ?_
      rintro v w' ⟨A, c, w6, t1, t2⟩
      exact ⟨_, w6, t1, t2⟩
    · refine (q2 hu).mono ?_
      rintro v w' ⟨A, c, w6, t1, t2⟩
      exact ⟨_, w6, t1, t2⟩

/-- append(v, u...), any values. -/
theorem made_app {w0 w : World} {v : Value} {xs : Bytes} (h : MadeB w0 w v xs) {u : Value} {G : Option Nat} {ys : Bytes} (hx : IsB w u G ys) (hm : xs.length + ys.length ≤ 140737488355327) :
    ∃ A' c' w', (Builtin.append_ #[22, 22] 22 #[v, u]).run Try.prog w = .ok (.slice A' (xs ++ ys).length c') w' ∧ MadeB w0 w' (.slice A' (xs ++ ys).length c') (xs ++ ys) ∧ Fr (fun k => v.ownBlock = some k) w w' := by
  obtain ⟨A, c, rfl, _⟩ := hx.val
  obtain ⟨A', c', w', h1, h2, h3⟩ := made_bytes2 h hx hm
  rw [← List.length_append] at h1 h2
  exact ⟨A', c', w', h1, h2, h3⟩
/-- append of what was made behind it. -/
theorem made_app2 {w0 w w1 : World} {v : Value} {xs : Bytes} (h : MadeB w0 w v xs) {u : Value} {ys : Bytes} (hx : MadeB w w1 u ys) (hm : xs.length + ys.length ≤ 140737488355327) :
    ∃ A' c' w', (Builtin.append_ #[22, 22] 22 #[v, u]).run Try.prog w1 = .ok (.slice A' (xs ++ ys).length c') w' ∧ MadeB w0 w' (.slice A' (xs ++ ys).length c') (xs ++ ys) := by
  obtain ⟨A', c', w', h1, h2, _⟩ := made_app (h.more hx.2.1) hx.isB hm
  exact ⟨A', c', w', h1, h2⟩

theorem f74 (w : World) (vb : Value) (b : Bat) (hb : IsBat w (fun k => k < w.heap.size) vb b) (hok : OkB b) :
    Meets Try.prog 74 [vb] w fun v' w' => MadeB w w' v' (encB b) := by
  have hb0 := hb
  obtain ⟨rv, rfl, hrs⟩ := hb
  obtain ⟨A, c, rfl, hlen⟩ := hrs.val
  have H := headR_of hok.head
  have F := hok.first
  have few := hok.few
  have hrl := restB_len hok
  have x1 : IntKind.i64.wrap (b.last - b.base) = ((b.last - b.base).toNat : Int) := by have := H.b0; have := H.l0; have := H.l1; rw [w64 (by omega)]; omega
  have x2 : firstOf b = ((firstOf b).toNat : Int) := by omega
  have x3 : b.prod = (b.prod.toNat : Int) := by have := H.p0; omega
  have x4 : b.epoch = (b.epoch.toNat : Int) := by have := H.e0; omega
  have x5 : b.seq = (b.seq.toNat : Int) := by have := H.s0; omega
  have x6 : b.base = (b.base.toNat : Int) := by have := H.b0; omega
  refine spec_join Try.func74 Try.ntmps74 Try.results74 rfl (by kernel_rfl) rfl (J := [10]) ?_
  intro b1 w1 e1 hw1
  obtain ⟨p1, p2, p3, p4⟩ := new_of e1 hw1
  have lds : ∀ u : World, u.heap[b1]? = some (.cells (batV b (.slice A b.recs.length c)).toArray 32 (0, 0)) → cellsAt u ⟨b1, 0, none⟩ 0 (batV b (.slice A b.recs.length c)) := fun u hu =>
    cellsAt_of fun j v hj => by rw [add_mk, Nat.zero_add]; exact cell_of hu (by simpa using hj)
  have hrs1 := hrs.fr p2 (Apart.none _ _)
  refine ⟨_, rfl, _, _, ⟨rfl, cell_of p1 rfl⟩, ?_⟩
  refine ⟨[3], fun vs u => u = w1 ∧ vs = [vi (firstOf b)], by kernel_rfl, fun h0 => ?_, fun h0 => ?_, ?_⟩
  · have h0' : 0 < b.recs.length := by simp at h0; omega
    obtain ⟨ea, r, cs, i2, i3, i4, i5⟩ := hrs1.at 0 h0'
    subst i2
    obtain ⟨kA, kc, vA, vc, rfl, _⟩ := i4.val
    have ef : firstOf b = r.time := by
      unfold firstOf
      match b.recs, i3 with
      | r0 :: rs, i3 => simp at i3; rw [i3]
    refine ⟨_, rfl, _, _, ⟨rfl, cell_of p1 rfl⟩, ea, ⟨rfl, by decide, by show (0 : Int) < (b.recs.length : Int); omega⟩, _, rfl, _, vi r.time, ⟨rfl, ?_⟩, ?_⟩
    · exact i5.2.1
    · rw [ef]; exact ⟨rfl, rfl⟩
  · have h0' : b.recs = [] := List.eq_nil_of_length_eq_zero (by have h1 : ¬ (0 : Int) < (b.recs.length : Int) := of_decide_eq_false h0; omega)
    refine ⟨rfl, ?_⟩
    unfold firstOf; rw [h0']
  rintro _ w1 ⟨rfl, rfl⟩
  refine ⟨rfl, _, rfl, _, _, ⟨rfl, cell_of p1 rfl⟩, _, rfl, _, _, ⟨rfl, cell_of p1 rfl⟩, ?_⟩
  have o1 := f123 w1 (b.last - b.base).toNat 8 (by have := H.b0; have := H.l1; omega) (by omega) (by omega)
  rw [← x1] at o1
  refine o1.mono ?_
  intro v2 w2 m2
  have o2 := f123 w2 (firstOf b).toNat 8 (by omega) (by omega) (by omega)
  rw [← x2] at o2
  refine o2.mono ?_
  intro v3 w3 m3
  obtain ⟨A4, c4, w4, z4, m4⟩ := made_app2 m2 m3 (by simp [fixedB_length])
  refine ⟨_, w4, z4, ?_⟩
  have hb4 := m4.2.1.blk p1 (no_none _)
  refine ⟨hs [0, 1, 2, 5, 6, 9, 10, 13, 14, 15] (.one 3 true (.one 4 true (.one 7 true (.one 8 true (.one 11 true (.one 12 true (.one 16 true (.one 17 true (hs [18] .nil))))))))), fun u => u.heap[b1]? = some (.cells (batV b (.slice A b.recs.length c)).toArray 32 (0, 0)), by kernel_rfl, by kernel_rfl, hb4, ?_⟩
  refine ⟨_, rfl, _, _, ⟨rfl, fun u hu => cell_of hu rfl⟩, _, rfl, _, _, ⟨rfl, fun u hu => cell_of hu rfl⟩, _, rfl, _, _, ⟨rfl, fun u hu => cell_of hu rfl⟩, _, rfl, _, _, ⟨rfl, fun u hu => cell_of hu rfl⟩, ?_⟩
  have o5 := f123 w4.drew b.prod.toNat 8 (by have := H.p1; omega) (by omega) (by omega)
  rw [← x3] at o5
  refine o5.mono ?_
  intro v5 w5 m5
  have hb5 := m5.2.1.blk hb4 (no_none _)
  refine ⟨hb5, ?_⟩
  obtain ⟨A6, c6, w6, z6, m6⟩ := made_app2 m4.drew m5 (by simp [fixedB_length])
  have hb6 := m6.2.1.blk p1 (no_none _)
  refine ⟨_, w6, z6, hb6, ?_⟩
  have o7 := f123 w6 b.epoch.toNat 2 (by have := H.e1; omega) (by omega) (by omega)
  rw [← x4] at o7
  refine o7.mono ?_
  intro v7 w7 m7
  refine ⟨m7.2.1.blk hb6 (no_none _), ?_⟩
  obtain ⟨A8, c8, w8, z8, m8⟩ := made_app2 m6 m7 (by simp [fixedB_length])
  have hb8 := m8.2.1.blk p1 (no_none _)
  refine ⟨_, w8, z8, hb8, ?_⟩
  have o9 := f123 w8 b.seq.toNat 4 (by have := H.s1; omega) (by omega) (by omega)
  rw [← x5] at o9
  refine o9.mono ?_
  intro v9 w9 m9
  refine ⟨m9.2.1.blk hb8 (no_none _), ?_⟩
  obtain ⟨A10, c10, w10, z10, m10⟩ := made_app2 m8 m9 (by simp [fixedB_length])
  have hb10 := m10.2.1.blk p1 (no_none _)
  refine ⟨_, w10, z10, hb10, ?_⟩
  refine (f123 w10 b.recs.length 4 (by omega) (by omega) (by omega)).mono ?_
  intro v11 w11 m11
  refine ⟨m11.2.1.blk hb10 (no_none _), ?_⟩
  obtain ⟨A12, c12, w12, z12, m12⟩ := made_app2 m10 m11 (by simp [fixedB_length])
  refine ⟨_, w12, z12, m12.2.1.blk p1 (no_none _), ?_⟩
  have eh : ((((fixedB (b.last - b.base).toNat 8 ++ fixedB (firstOf b).toNat 8) ++ fixedB b.prod.toNat 8) ++ fixedB b.epoch.toNat 2) ++ fixedB b.seq.toNat 4) ++ fixedB b.recs.length 4 = headB b := rfl
  rw [eh] at m12 ⊢
  refine ⟨[4, 5], by kernel_rfl, fun vs u => ∃ sl, ∃ j : Nat, j ≤ b.recs.length ∧ vs = [sl, vi j] ∧ MadeB w1 u sl (headB b ++ ((b.recs.take j).map (lineB (firstOf b) b.base)).flatten), fun vs _ => match vs with | [_, .int _ j] => (b.recs.length - j).toNat | _ => 0, ⟨_, 0, by omega, rfl, by simpa using m12⟩, ?_⟩
  rintro _ u ⟨sl, j, hj, rfl, hm⟩
  have hll := lines_len hok j
  have hbu := hm.2.1.blk p1 (no_none _)
  refine ⟨rfl, _, rfl, _, _, ⟨rfl, cell_of hbu rfl⟩, ?_⟩
  refine ⟨fun hlt => ?_, fun hlt => ?_⟩
  · have hj' : j < b.recs.length := by simp at hlt; omega
    obtain ⟨ea, r, cs, i2, i3, i40, i50⟩ := hrs1.at j hj'
    subst i2
    have i4 := i40.fr hm.2.1 (Apart.none _ _)
    have i5 := cellsAt_fr0 hm.2.1 i50
    obtain ⟨kA, kc, vA, vc, rfl, hk, hv⟩ := i4.val
    have hrm := List.mem_of_getElem? i3
    have hgr := hok.recs r hrm
    obtain ⟨hr1, hr2⟩ := times_rng hok hrm
    have hbl := bodyB_len hok hrm
    have hll2 := lineB_len hok hrm
    unfold GoodRec at hgr
    refine ⟨hs [0, 1, 2, 3, 4, 5, 6, 7, 8] (.one 9 true (.one 10 true (.one 11 true (hs [12] .nil)))), fun x => x.heap[b1]? = some (.cells (batV b (.slice (some ea) b.recs.length c)).toArray 32 (0, 0)) ∧ cellsAt x (ea.add (j * 6)) 0 (recL r kA kc vA vc), by kernel_rfl, by kernel_rfl, ⟨hbu, i5⟩, ?_⟩
    refine ⟨_, rfl, _, _, ⟨rfl, fun u hu => cell_of hu.1 rfl⟩, ea, ⟨rfl, Int.natCast_nonneg _, by omega⟩, _, _, ⟨rfl, rfl, fun u hu => hu.2⟩, _, rfl, _, _, ⟨rfl, fun u hu => cell_of hu.1 rfl⟩, ?_⟩
    have SS : ∀ {x : World}, Fr None u.drew x → (x.heap[b1]? = some (.cells (batV b (.slice (some ea) b.recs.length c)).toArray 32 (0, 0)) ∧ cellsAt x (ea.add (j * 6)) 0 (recL r kA kc vA vc)) := fun hf => ⟨hf.blk hbu (no_none _), cellsAt_fr0 hf i5⟩
    refine (f125 u.drew _ _ r (firstOf b) b.base (i4.fr (Fr.refl None u).drew (Apart.none _ _)) hr1 hr2 (by omega) (by omega)).mono ?_
    intro v1 u1 k1
    refine ⟨SS k1.2.1, ?_⟩
    refine (f124 u1 v1 _ _ k1.isB (by omega)).mono ?_
    intro v2 u2 k2
    have g2 := k1.2.1.more k2.2.1
    refine ⟨SS g2, ?_⟩
    have ell : putN (bodyB (firstOf b) b.base r).length ++ bodyB (firstOf b) b.base r = lineB (firstOf b) b.base r := rfl
    rw [ell] at k2
    obtain ⟨A3, c3, u3, z3, k3⟩ := made_app2 (hm.drew.more k1.2.1) k2 (by rw [List.length_append, headB_len]; omega)
    have e : headB b ++ ((b.recs.take (j + 1)).map (lineB (firstOf b) b.base)).flatten = headB b ++ ((b.recs.take j).map (lineB (firstOf b) b.base)).flatten ++ lineB (firstOf b) b.base r := by
      rw [List.take_add_one, i3]
      simp [List.append_assoc]
    have hbu3 := k3.2.1.blk p1 (no_none _)
    have i5' : cellsAt u3 (ea.add (j * 6)) 0 (recL r kA kc vA vc) := cellsAt_fr0 k3.2.1 i50
    have k3' := k3
    rw [← e] at k3'
    refine ⟨_, u3, z3, ⟨hbu3, i5'⟩, ⟨_, j + 1, by omega, ?_, k3'⟩, ?_⟩
    · show [Value.slice _ _ _, vi (IntKind.i64.wrap _)] = _
      rw [w64 (by omega), e]; rfl
    · show ((b.recs.length : Int) - IntKind.i64.wrap (_ : Int)).toNat < ((b.recs.length : Int) - j).toNat
      rw [w64 (by omega)]; omega
  · have hj' : j = b.recs.length := by simp at hlt; omega
    subst hj'
    rw [List.take_length] at hm hll
    have er : headB b ++ (b.recs.map (lineB (firstOf b) b.base)).flatten = restB b := rfl
    rw [er] at hm
    refine ⟨_, rfl, _, _, ⟨rfl, cell_of hbu rfl⟩, ?_⟩
    have k1 := f123 u b.base.toNat 8 (by have := H.b1; omega) (by omega) (by omega)
    rw [← x6] at k1
    refine k1.mono ?_
    intro v1 u1 m1
    obtain ⟨Ar, cr, rfl⟩ := hm.ex
    have l1 : IntKind.i64.wrap ((((restB b).length : Nat) : Int) + 4) = (((restB b).length + 4 : Nat) : Int) := by rw [w64 (by omega)]; omega
    have k2 := f123 u1 ((restB b).length + 4) 4 (by omega) (by omega) (by omega)
    rw [← l1] at k2
    refine k2.mono ?_
    intro v2 u2 m2
    obtain ⟨A3, c3, u3, z3, m3⟩ := made_app2 m1 m2 (by simp [fixedB_length])
    refine ⟨_, u3, z3, ?_⟩
    have hm3 := hm.more m3.2.1
    refine (f126 u3 _ _ (restB b) hm3.isB).mono ?_
    rintro _ u3 ⟨rfl, rfl⟩
    have hs32 := sum32_lt (restB b)
    have l2 : IntKind.i64.wrap ((sum32 (restB b) : Nat) : Int) = ((sum32 (restB b) : Nat) : Int) := w64n _ (by omega)
    have k4 := f123 u3 (sum32 (restB b)) 4 (by omega) (by omega) (by omega)
    rw [← l2] at k4
    refine k4.mono ?_
    intro v4 u4 m4'
    obtain ⟨A5, c5, u5, z5, m5'⟩ := made_app2 m3 m4' (by simp [fixedB_length])
    refine ⟨_, u5, z5, ?_⟩
    obtain ⟨A6', c6', u6, z6', m6', _⟩ := made_app m5' (hm.more m5'.2.1).isB (by simp [fixedB_length]; omega)
    refine ⟨_, u6, z6', ?_⟩
    have ee : encB b = ((fixedB b.base.toNat 8 ++ fixedB ((restB b).length + 4) 4) ++ fixedB (sum32 (restB b)) 4) ++ restB b := rfl
    rw [ee]
    exact m6'.from (p2.trans hm.2.1 (fun _ _ h => h.elim) fun _ _ h => h.elim)

theorem f73 (w : World) (D : Nat → Prop) (vb : Value) (b : Bat) (hb : IsBat w D vb b) :
    Meets Try.prog 73 [vb] w fun v' w' => v' = vi (chk b) ∧ Fr None w w' := by
  replace hb := hb.here
  have hb0 := hb
  obtain ⟨rv, rfl, hrs⟩ := hb
  obtain ⟨A, c, rfl, hlen⟩ := hrs.val
  refine spec_of Try.func73 Try.ntmps73 Try.results73 rfl (by kernel_rfl) rfl ?_
  intro b1 w1 e1 hw1
  obtain ⟨p1, p2, p3, p4⟩ := new_of e1 hw1
  have lds : ∀ u : World, u.heap[b1]? = some (.cells (batV b (.slice A b.recs.length c)).toArray 32 (0, 0)) → cellsAt u ⟨b1, 0, none⟩ 0 (batV b (.slice A b.recs.length c)) := fun u hu =>
    cellsAt_of fun j v hj => by rw [add_mk, Nat.zero_add]; exact cell_of hu (by simpa using hj)
  have hbw1 : IsBat w1 (fun k => k < w.heap.size) _ b := hb0.fr p2 (Apart.none _ _)
  refine ⟨_, rfl, _, _, ⟨rfl, cell_of p1 rfl⟩, _, fun _ => rfl, _, _, fun _ => ⟨rfl, cell_of p1 rfl⟩, _, fun _ => rfl, _, _, fun _ => ⟨rfl, cell_of p1 rfl⟩, _, fun _ => rfl, _, _, fun _ => ⟨rfl, cell_of p1 rfl⟩, _, fun _ => rfl, _, _, fun _ => ⟨rfl, cell_of p1 rfl⟩, _, fun _ => rfl, _, _, fun _ => ⟨rfl, cell_of p1 rfl⟩, _, fun _ => rfl, _, _, fun _ => ⟨rfl, cell_of p1 rfl⟩, ?_⟩
  refine ⟨_, fun _ => rfl, _, _, fun _ => ⟨rfl, cell_of p1 rfl⟩, _, fun _ => rfl, _, _, fun _ => ⟨rfl, cell_of p1 rfl⟩, _, fun _ => rfl, _, _, fun _ => ⟨rfl, cell_of p1 rfl⟩, _, fun _ => rfl, _, _, fun _ => ⟨rfl, cell_of p1 rfl⟩, _, fun _ => rfl, _, _, fun _ => ⟨rfl, cell_of p1 rfl⟩, _, fun _ _ => rfl, _, _, fun _ _ => ⟨rfl, cell_of p1 rfl⟩, _, fun _ _ _ => rfl, _, _, fun _ _ _ => ⟨rfl, cell_of p1 rfl⟩, ?_⟩
  have hq : badHead b = (decide (b.base < 0) || decide (4611686018427387904 < b.base) || decide (b.last < b.base) || decide (4611686018427387904 < b.last) || decide (b.prod < 0) || decide (1099511627776 < b.prod) || decide (b.epoch < 0) || decide (32767 < b.epoch) || decide (b.seq < 0) || decide (2147483647 < b.seq) || (decide (b.prod = 0) && (!decide (b.epoch = 0) || !decide (b.seq = 0)))) := by
    unfold badHead headOk
    congr 1
    rw [Bool.eq_iff_iff]
    simp only [Bool.or_eq_true, Bool.not_eq_true', Bool.and_eq_false_iff, decide_eq_true_eq, decide_eq_false_iff_not]
    omega
  refine ⟨fun h => ?_, fun h => ?_⟩
  · have h : badHead b = true := hq.trans h
    refine ⟨?_, p2⟩
    simp only [chk, h]; rfl
  have h : badHead b = false := hq.trans h
  refine ⟨_, rfl, _, _, ⟨rfl, cell_of p1 rfl⟩, ?_⟩
  refine ⟨fun h2 => ?_, fun h2 => ?_⟩
  · have h2 : 100 < b.recs.length := by simp at h2; omega
    refine ⟨?_, p2⟩
    simp only [chk, h, cond_false, if_pos h2]; rfl
  have h2 : ¬ 100 < b.recs.length := by simp at h2; omega
  have hrs1 := hrs.fr p2 (Apart.none _ _)
  refine ⟨[2, 3, 4], by kernel_rfl, fun vs u => Fr None w1 u ∧ ∃ (j : Nat) (l : Int), j ≤ b.recs.length ∧ vs = [vi 0, vi l, vi j] ∧ chkRecs b (-1) b.recs = chkRecs b l (b.recs.drop j), fun vs _ => match vs with | [_, _, .int _ j] => (b.recs.length - j).toNat | _ => 0, ⟨Fr.refl _ _, 0, -1, by omega, rfl, rfl⟩, ?_⟩
  rintro _ u ⟨fu, j, l, hj, rfl, hc⟩
  have hbu := fu.blk p1 (no_none _)
  refine ⟨rfl, _, rfl, _, _, ⟨rfl, cell_of hbu rfl⟩, ?_⟩
  refine ⟨fun hlt => ?_, fun hlt => ?_⟩
  · have hj' : j < b.recs.length := by simp at hlt; omega
    obtain ⟨ea, r, cs, i2, i3, i40, i50⟩ := hrs1.at j hj'
    subst i2
    have i4 := i40.fr fu (Apart.none _ _)
    have i5 := cellsAt_fr0 fu i50
    have hbatu : IsBat u (fun k => k < w.heap.size) _ b := hbw1.fr fu (Apart.none _ _)
    obtain ⟨kA, kc, vA, vc, rfl, hk, hv⟩ := i4.val
    rw [List.drop_eq_getElem_cons hj', show b.recs[j] = r by rw [List.getElem?_eq_getElem hj'] at i3; exact Option.some.inj i3] at hc
    refine ⟨hs [0, 1, 2, 3, 4, 5, 6] (.one 7 true (hs [8] .nil)), fun x => x.heap[b1]? = some (.cells (batV b (.slice (some ea) b.recs.length c)).toArray 32 (0, 0)) ∧ cellsAt x (ea.add (j * 6)) 0 (recL r kA kc vA vc), by kernel_rfl, by kernel_rfl, ⟨hbu, i5⟩, ?_⟩
    refine ⟨_, rfl, _, _, ⟨rfl, fun u hu => cell_of hu.1 rfl⟩, ea, ⟨rfl, Int.natCast_nonneg _, by omega⟩, _, _, ⟨rfl, rfl, fun u hu => hu.2⟩, _, _, ⟨rfl, rfl, fun u hu => lds u hu.1⟩, ?_⟩
    refine (f122 u.drew _ r b l _ _ (i4.fr (Fr.refl None u).drew (Apart.none _ _)) (hbatu.fr (Fr.refl None u).drew (Apart.none _ _))).mono ?_
    rintro _ u3 ⟨rfl, f3⟩
    have fu3 : Fr None w1 u3 := fu.drew.more f3
    have i53 := cellsAt_fr0 fu3 i50
    have hbu3 := fu3.blk p1 (no_none _)
    refine ⟨⟨hbu3, i53⟩, ?_⟩
    refine ⟨fun he => ?_, fun he => ?_⟩
    · have he : chkRec b l r ≠ 0 := by simp at he; omega
      rw [chkRecs, if_neg he] at hc
      refine ⟨?_, p2.more fu3⟩
      simp only [chk, h, cond_false, if_neg h2]
      rw [if_neg (by rw [hc]; exact he), hc]; rfl
    · have he : chkRec b l r = 0 := by simp at he; omega
      rw [chkRecs, if_pos he] at hc
      refine ⟨_, rfl, _, _, ⟨rfl, cell_of hbu3 rfl⟩, ea, ⟨rfl, Int.natCast_nonneg _, by omega⟩, _, rfl, _, vi r.off, ⟨rfl, i53.1⟩, ⟨fu3, j + 1, r.off, by omega, ?_, hc⟩, ?_⟩
      · show [_, _, vi (IntKind.i64.wrap _)] = _
        rw [w64 (by omega)]; rfl
      · show ((b.recs.length : Int) - IntKind.i64.wrap (_ : Int)).toNat < ((b.recs.length : Int) - j).toNat
        rw [w64 (by omega)]; omega
  · have hj' : j = b.recs.length := by simp at hlt; omega
    subst hj'
    rw [List.drop_length, chkRecs] at hc
    have hbatu : IsBat u (fun k => k < w.heap.size) _ b := hbw1.fr fu (Apart.none _ _)
    have hhd : headOk b = true := by
      unfold badHead at h
      cases hh : headOk b with
      | true => rfl
      | false => rw [hh] at h; cases h
    have hok : OkB b := ⟨hhd, by omega, goodRecs_of hc⟩
    refine ⟨_, _, ⟨rfl, rfl, lds u hbu⟩, ?_⟩
    refine (f74 u _ b hbatu.here hok).mono ?_
    intro v2 u2 h3
    obtain ⟨A2, c2, rfl⟩ := h3.ex
    have fu2 := p2.more (fu.more h3.2.1)
    refine ⟨fun hl => ?_, fun hl => ?_⟩
    · have hl : 65536 < (encB b).length := by simp at hl; omega
      refine ⟨?_, fu2⟩
      simp only [chk, h, cond_false, if_neg h2, if_pos hc, if_pos hl]; rfl
    · have hl : ¬ 65536 < (encB b).length := by simp at hl; omega
      refine ⟨?_, fu2⟩
      simp only [chk, h, cond_false, if_neg h2, if_pos hc, if_neg hl]; rfl

theorem f24 (w : World) (D : Nat → Prop) (vb : Value) (b : Bat) (hb : IsBat w D vb b) : Meets Try.prog 24 [vb] w fun v' w' => EncV w w' v' b := by
  replace hb := hb.here
  have hb0 := hb
  obtain ⟨rv, rfl, hrs⟩ := hb
  refine spec_of Try.func24 Try.ntmps24 Try.results24 rfl (by kernel_rfl) rfl ?_
  intro b1 w1 e1 hw1
  obtain ⟨p1, p2, p3, p4⟩ := new_of e1 hw1
  have lds : ∀ u : World, u.heap[b1]? = some (.cells (batV b rv).toArray 32 (0, 0)) → cellsAt u ⟨b1, 0, none⟩ 0 (batV b rv) := fun u hu =>
    cellsAt_of fun j v hj => by rw [add_mk, Nat.zero_add]; exact cell_of hu (by simpa using hj)
  have hbw1 : IsBat w1 (fun k => k < w.heap.size) _ b := hb0.fr p2 (Apart.none _ _)
  refine ⟨_, _, ⟨rfl, rfl, lds w1 p1⟩, ?_⟩
  refine (f73 w1 _ _ b hbw1).mono ?_
  rintro _ w2 ⟨rfl, f2⟩
  refine ⟨fun he => ?_, fun he => ?_⟩
  · have he : chk b ≠ 0 := by simp at he; omega
    exact ⟨_, rfl, p2.more f2, by rw [if_neg he]⟩
  · have he : chk b = 0 := by simp at he; omega
    refine ⟨_, _, ⟨rfl, rfl, lds w2 (f2.blk p1 (no_none _))⟩, ?_⟩
    refine (f74 w2 _ b (hbw1.fr f2 (Apart.none _ _)).here (okB_of he).1).mono ?_
    intro v3 w3 h3
    refine ⟨v3, ?_, p2.more (f2.more h3.2.1), by rw [if_pos he]; exact h3.from (p2.more f2)⟩
    rw [he]; rfl

end Go.Proofs.Yticgmchbihakkaa

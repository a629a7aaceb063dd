/- Times; Fixed of the document's answer; a writer that is new. -/
import Derived.Test.YticgmchbihakkaaB6
set_option linter.unusedVariables false
set_option linter.unusedSimpArgs false
namespace Go.Proofs.Yticgmchbihakkaa
open Go Go.Den
set_option maxRecDepth 100000

theorem sta_ok {w : World} {b : Nat} {c : Array Value} {t : TypeId} {vs : List Value} (h : w.heap[b]? = some (.cells c t (0, 0))) (hl : vs.length = c.size) (h1 : ∀ v ∈ vs, v.oneCell' = true) : wrAt w ⟨b, 0, none⟩ 0 vs :=
  (stN (k := 0) (i := 0) h (by omega) h1).1
theorem sta_fx {w w1 : World} {b : Nat} {c : Array Value} {t : TypeId} {vs : List Value} (h : w.heap[b]? = some (.cells c t (0, 0))) (hl : vs.length = c.size) (h1 : ∀ v ∈ vs, v.oneCell' = true) (e : w1 = setCells w ⟨b, 0, none⟩ 0 vs) :
    w1.heap[b]? = some (.cells vs.toArray t (0, 0)) ∧ Fr (· = b) w w1 ∧ w1.heap.size = w.heap.size := by
  subst e
  obtain ⟨_, h2, h3, h4⟩ := stN (k := 0) (i := 0) h (by omega) h1
  refine ⟨?_, h3, h4⟩
  rw [h2]
  congr 2
  simp [hl]
theorem fr_new_set {w w2 w3 : World} {b : Nat} (h : Fr None w w2) (k : Fr (· = b) w2 w3) (hb : w.heap.size ≤ b) : Fr None w w3 :=
  h.trans k (fun _ _ h => h.elim) fun i hi e => by omega
abbrev recL (r : Rec) (kA : Option Addr) (kc : Nat) (vA : Option Addr) (vc : Nat) : List Value := [vi r.off, vi r.time, .bool r.hk, .slice kA r.key.length kc, .bool r.hv, .slice vA r.val.length vc]
theorem recs_one {r : Rec} {kA vA : Option Addr} {kc vc : Nat} : ∀ v ∈ recL r kA kc vA vc, v.oneCell' = true := by
  intro u hu
  simp at hu
  rcases hu with rfl | rfl | rfl | rfl | rfl | rfl <;> rfl
theorem IsRec.val {w : World} {D : Nat → Prop} {cs : List Value} {r : Rec} (h : IsRec w D cs r) : ∃ kA kc vA vc, cs = recL r kA kc vA vc ∧
    IsBD w D (.slice kA r.key.length kc) r.key ∧ IsBD w D (.slice vA r.val.length vc) r.val := by
  obtain ⟨k, v, rfl, ⟨G1, h1, g1⟩, ⟨G2, h2, g2⟩⟩ := h
  obtain ⟨kA, kc, rfl, _⟩ := h1.val
  obtain ⟨vA, vc, rfl, _⟩ := h2.val
  exact ⟨kA, kc, vA, vc, rfl, ⟨G1, h1, g1⟩, ⟨G2, h2, g2⟩⟩

def mostOf (b : Bat) : Int := match b.recs with | [] => 0 | r :: rs => rs.foldl (fun m x => max m x.time) r.time

def tmsT (l : List Rec) : Int × Int := match l with | [] => (0, 0) | r :: rs => (r.time, rs.foldl (fun m x => max m x.time) r.time)

theorem f163 (w : World) (D : Nat → Prop) (vb : Value) (b : Bat) (hb : IsBat w D vb b) :
    Meets Try.prog 163 [vb] w fun v' w' => v' = .tuple #[vi (firstOf b), vi (mostOf b)] ∧ Fr None w w' := by
  obtain ⟨rv, rfl, hrs⟩ := hb
  obtain ⟨A, c, rfl, hlen⟩ := hrs.val
  refine spec_of Try.func163 Try.ntmps163 Try.results163 rfl (by kernel_rfl) rfl ?_
  intro b1 w1 e1 hw1
  obtain ⟨p1, p2, p3, p4⟩ := new_of e1 hw1
  refine ⟨_, rfl, _, _, ⟨rfl, cell_of p1 rfl⟩, ?_⟩
  let T : Nat → Int × Int := fun j => tmsT (b.recs.take j)
  have hT : ∀ j r, b.recs[j]? = some r → T (j + 1) = (if j = 0 then r.time else (T j).1, max (if j = 0 then r.time else (T j).2) r.time) := by
    intro j r hj
    show tmsT (b.recs.take (j + 1)) = (if j = 0 then r.time else (tmsT (b.recs.take j)).1, max (if j = 0 then r.time else (tmsT (b.recs.take j)).2) r.time)
    rw [List.take_add_one, hj]
    match b.recs, j, hj with
    | [], j, hj => simp at hj
    | r0 :: rs, 0, hj => simp at hj; subst hj; simp [tmsT]
    | r0 :: rs, j + 1, hj => simp [tmsT]
  refine ⟨[2, 3, 9], by kernel_rfl, fun vs w2 => Fr None w1 w2 ∧ ∃ j, j ≤ b.recs.length ∧ vs = [vi (T j).1, vi (T j).2, vi j], fun vs _ => match vs with | [_, _, .int _ j] => (b.recs.length - j).toNat | _ => 0, ⟨Fr.refl _ _, 0, by omega, rfl⟩, ?_⟩
  rintro _ w2 ⟨hf2, j, hj, rfl⟩
  refine ⟨rfl, fun hlt => ?_, fun hlt => ?_⟩
  · have hj' : j < b.recs.length := by simp at hlt; omega
    have hrs2 := (hrs.fr p2 (Apart.none _ _)).fr hf2 (Apart.none _ _)
    obtain ⟨a, r, cs, e2, e3, e4, e5⟩ := hrs2.at j hj'
    subst e2
    obtain ⟨kA, kc, vA, vc, rfl, _⟩ := e4.val
    refine ⟨a, ⟨rfl, Int.natCast_nonneg _, by omega⟩, _, _, ⟨rfl, rfl, e5⟩, ?_⟩
    intro b3 w3 e6 hw3
    obtain ⟨q1, q2, q3, q4⟩ := new_of e6 hw3
    refine ⟨sta_ok q1 rfl recs_one, fun w4 hw4 => ?_⟩
    obtain ⟨s1, s2, s3⟩ := sta_fx (vs := recL r kA kc vA vc) q1 rfl recs_one hw4
    have hs1 := hf2.size
    have hf4 : Fr None w1 w4 := fr_new_set (hf2.more q2) s2 (by omega)
    have ht := hT j r e3
    have em : ∀ (x y : Int) (u : World), u.heap[b3]? = some (.cells (recL r kA kc vA vc).toArray 47 (0, 0)) → x = (if j = 0 then r.time else (T j).1) → y = (if j = 0 then r.time else (T j).2) → vi x = vi (T (j + 1)).1 ∧ (Value.int .i64 (max y r.time)) = vi (T (j + 1)).2 := by
      intro x y u _ hx hy
      rw [ht, hx, hy]
      exact ⟨rfl, rfl⟩
    refine ⟨fun h0 => ?_, fun h0 => ?_⟩
    · have h0' : j = 0 := by simp at h0; omega
      subst h0'
      refine ⟨hs [0, 1, 2, 3, 4, 5] .nil, fun u => u.heap[b3]? = some (.cells (recL r kA kc vA vc).toArray 47 (0, 0)), by kernel_rfl, by kernel_rfl, s1, ?_⟩
      refine ⟨_, rfl, _, _, ⟨rfl, fun u hu => cell_of hu rfl⟩, _, rfl, _, _, ⟨rfl, fun u hu => cell_of hu rfl⟩, ?_⟩
      have s1' : w4.drew.heap[b3]? = some (.cells (recL r kA kc vA vc).toArray 47 (0, 0)) := s1
      refine ⟨_, rfl, _, _, ⟨rfl, cell_of s1' rfl⟩, ⟨hf4.drew, 1, by omega, ?_⟩, ?_⟩
      · show [vi r.time, Value.int .i64 (max r.time r.time), vi (IntKind.i64.wrap _)] = _
        obtain ⟨m1, m2⟩ := em r.time r.time w4 s1 rfl rfl
        rw [m1, m2, w64 (by omega)]; rfl
      · show ((b.recs.length : Int) - IntKind.i64.wrap (_ : Int)).toNat < ((b.recs.length : Int) - (0 : Nat)).toNat
        rw [w64 (by omega)]; omega
    · have h0' : j ≠ 0 := by simp at h0; omega
      refine ⟨_, rfl, _, _, ⟨rfl, cell_of s1 rfl⟩, ⟨hf4, j + 1, by omega, ?_⟩, ?_⟩
      · show [vi (T j).1, Value.int .i64 (max (T j).2 r.time), vi (IntKind.i64.wrap _)] = _
        obtain ⟨m1, m2⟩ := em (T j).1 (T j).2 w4 s1 (by rw [if_neg h0']) (by rw [if_neg h0'])
        rw [m1, m2, w64 (by omega)]; rfl
      · show ((b.recs.length : Int) - IntKind.i64.wrap (_ : Int)).toNat < ((b.recs.length : Int) - j).toNat
        rw [w64 (by omega)]; omega
  · have hj' : j = b.recs.length := by simp at hlt; omega
    subst hj'
    refine ⟨?_, (p2.trans hf2 (fun _ _ h => h.elim) fun _ _ h => h.elim)⟩
    show Value.tuple #[vi (tmsT (b.recs.take b.recs.length)).1, vi (tmsT (b.recs.take b.recs.length)).2] = _
    rw [List.take_length]
    unfold firstOf mostOf tmsT
    cases b.recs <;> rfl

/-- A writer whose blocks are new since a world of B blocks. -/
def NW (B : Nat) (w : World) (a : Nat) (xs : Bytes) : Prop := ∃ D, IsW w D a xs false ∧ ∀ k, D k → B ≤ k
theorem NW.drew {B : Nat} {w : World} {a : Nat} {xs : Bytes} (h : NW B w a xs) : NW B w.drew a xs := by
  obtain ⟨D, ⟨sl, hb, ho, hd⟩, h⟩ := h
  exact ⟨D, ⟨sl, hb, ho, hd⟩, h⟩
def From (B : Nat) : Nat → Prop := fun k => B ≤ k

theorem f114n (B : Nat) (w : World) (a : Nat) (xs : Bytes) (n size : Nat) (h : NW B w a xs) (hB : B ≤ w.heap.size) (h1 : 1 ≤ size) (h8 : size ≤ 8) (hf : size < 8 → n < 2 ^ (8 * size)) (hn2 : n < 2 ^ 63) (hl : xs.length ≤ 100000000000) :
    Meets Try.prog 114 [ptr a, vi n, vi size] w fun v w' => v = ptr a ∧ NW B w' a (xs ++ fixedB n size) ∧ Fr (From B) w w' := by
  obtain ⟨D, h2, h3⟩ := h
  refine (f114 w D a xs false n size h2 h1 h8 hf hn2 hl).mono ?_
  rintro v w' ⟨rfl, D', k1, k2, k3⟩
  refine ⟨rfl, ⟨D', k1, fun k hk => ?_⟩, k2.mono fun k _ hk => h3 k hk⟩
  rcases k3 k hk with h | h
  · exact h3 k h
  · omega
theorem f115n (B : Nat) (w : World) (a : Nat) (xs : Bytes) (h : NW B w a xs) (hl : xs.length ≤ 100000000000) :
    Meets Try.prog 115 [ptr a] w fun v' w' => ∃ A c, v' = .tuple #[.slice A xs.length c, .bool true] ∧ MadeB w w' (.slice A xs.length c) xs := by
  obtain ⟨D, h2, h3⟩ := h
  refine (f115 w D a xs h2 hl).mono ?_
  rintro _ w' ⟨v, rfl, h4⟩
  obtain ⟨A, c, rfl⟩ := Own.ex h4.1
  exact ⟨A, c, rfl, h4⟩
theorem MadeB.from {w w1 w2 : World} {v : Value} {xs : Bytes} (h : MadeB w1 w2 v xs) (hf : Fr None w w1) : MadeB w w2 v xs :=
  ⟨h.1, hf.trans h.2.1 (fun _ _ h => h.elim) fun _ _ h => h.elim, fun b hb => Nat.le_trans hf.size (h.2.2 b hb)⟩
theorem MadeB.more {w w1 w2 : World} {v : Value} {xs : Bytes} (h : MadeB w w1 v xs) (hf : Fr None w1 w2) : MadeB w w2 v xs :=
  ⟨h.1.fr hf fun _ _ _ => id, h.2.1.more hf, h.2.2⟩
theorem MadeB.lt {w w1 : World} {v : Value} {xs : Bytes} (h : MadeB w w1 v xs) : ∀ b, v.ownBlock = some b → b < w1.heap.size := Own.lt h.1
theorem MadeB.drew {w w1 : World} {v : Value} {xs : Bytes} (h : MadeB w w1 v xs) : MadeB w w1.drew v xs := ⟨h.1, h.2.1.drew, h.2.2⟩
theorem MadeB.ex {w w1 : World} {v : Value} {xs : Bytes} (h : MadeB w w1 v xs) : ∃ A c, v = .slice A xs.length c := Own.ex h.1
theorem Fr.from {B : Nat} {w w1 w2 : World} (h : Fr None w w1) (k : Fr (From B) w1 w2) (hB : w.heap.size ≤ B) : Fr None w w2 :=
  h.trans k (fun _ _ h => h.elim) fun i hi (h : B ≤ i) => by omega

/-- Fixed of the document's answer. -/
theorem f123 (w : World) (n size : Nat) (hn : n < 2 ^ 63) (h1 : 1 ≤ size) (h8 : size ≤ 8) :
    Meets Try.prog 123 [vi n, vi size] w fun v' w' => MadeB w w' v' (fixedB n size) := by
  refine spec_of Try.func123 Try.ntmps123 Try.results123 rfl (by kernel_rfl) rfl ?_
  obtain ⟨i, hi, hz, hs, hby⟩ := info_parts byteTy.info
  have hr := run_makeSlice (P := Try.prog) w 22 5 i (.int .u8 0) Try.underlying22 hi hz .i64 .i64 size size (by omega) (by omega) (by rw [hs]; simp; omega) (by rw [hby]; omega) (by omega)
  rw [hs] at hr
  refine ⟨_, _, hr, ?_⟩
  generalize hw0 : w.alloc _ = w0
  have hb0 : w0.heap[w.heap.size]? = some (.cells (bvs (List.replicate size 0)).toArray 5 (0, 0)) := by
    rw [← hw0]
    show (w.heap.push _)[w.heap.size]? = _
    rw [Array.getElem?_push, if_pos rfl]
    congr 2
    apply Array.ext'
    apply List.ext_getElem?
    intro j
    simp only [madeCells, bvs, Int.toNat_natCast, Nat.mul_one]
    by_cases hj : j < size
    · simp [hj, bv]
      show (#[(Value.int .u8 0)] : Array Value)[j % 1]! = _
      rw [Nat.mod_one]; rfl
    · simp [hj]
  have hfr0 : Fr None w w0 := by rw [← hw0]; exact Fr.none_alloc _ _
  have hlt0 := lt_of_blk hb0
  refine ⟨[6], by kernel_rfl, fun vs w1 => ∃ j ys, j ≤ size ∧ vs = [vi j] ∧ w1.heap[w.heap.size]? = some (.cells (bvs ys).toArray 5 (0, 0)) ∧ ys.length = size ∧ (∀ k, size - j ≤ k → k < size → ys[k]? = (fixedB n size)[k]?) ∧ Fr None w w1, fun vs _ => match vs with | [.int _ j] => (size - j).toNat | _ => 0, ⟨0, List.replicate size 0, by omega, rfl, hb0, by simp, fun k h h' => by omega, hfr0⟩, ?_⟩
  rintro _ w1 ⟨j, ys, hj, rfl, hb1, hy, hk, hf1⟩
  refine ⟨rfl, fun hlt => ?_, fun hlt => ?_⟩
  · have hj' : j < size := by simp at hlt; omega
    have em : IntKind.i64.wrap (8 * (j : Int)) = ((8 * j : Nat) : Int) := by rw [w64 (by omega)]; omega
    have ei : IntKind.i64.wrap (IntKind.i64.wrap ((size : Int) - 1) - j) = ((size - 1 - j : Nat) : Int) := by rw [w64 (n := (size : Int) - 1) (by omega), w64 (by omega)]; omega
    refine ⟨by show (0 : Int) ≤ IntKind.i64.wrap _; rw [em]; omega, ?_⟩
    refine ⟨⟨w.heap.size, 0, none⟩, ⟨rfl, by rw [ei]; omega, by rw [ei]; simp; omega⟩, ?_⟩
    rw [ei]
    have hb1' := hb1
    have ev : (Value.int .u8 (IntKind.u8.wrap (shrI .u64 (IntKind.u64.wrap (n : Int)) (IntKind.i64.wrap (8 * (j : Int)))))) = bv (UInt8.ofNat (n >>> (8 * j))) := by
      rw [em, wu64, Int.emod_eq_of_lt (by omega) (by omega), shr_nat _ _ _ (by simp [IntKind.bits]; omega), bv_wrap]
    have ea : (⟨w.heap.size, 0, none⟩ : Addr).add (((size - 1 - j : Nat) : Int).toNat * 1) = ⟨w.heap.size, size - 1 - j, none⟩ := by rw [add_mk]; simp
    refine ⟨?_, fun w2 hw2 => ?_⟩
    · show wrAt w1 ((⟨w.heap.size, 0, none⟩ : Addr).add (((size - 1 - j : Nat) : Int).toNat * 1)) 0 [_]
      rw [ea]
      exact st_ok hb1 (by simp [hy]; omega) rfl
    · have hw2' : w2 = setCells w1 ((⟨w.heap.size, 0, none⟩ : Addr).add (((size - 1 - j : Nat) : Int).toNat * 1)) 0 [(Value.int .u8 (IntKind.u8.wrap (shrI .u64 (IntKind.u64.wrap (n : Int)) (IntKind.i64.wrap (8 * (j : Int))))))] := hw2
      rw [ea, ev] at hw2'
      obtain ⟨k1, k2, k3⟩ := st_fx hb1 hw2'
      refine ⟨⟨j + 1, ys.set (size - 1 - j) (UInt8.ofNat (n >>> (8 * j))), by omega, ?_, ?_, by simp [hy], ?_, fr_new_set hf1 k2 (Nat.le_refl _)⟩, ?_⟩
      · show [vi (IntKind.i64.wrap _)] = _
        rw [w64 (by omega)]; rfl
      · rw [k1]
        congr 2
        apply Array.ext'
        simp [bvs, List.map_set]
      · intro k h1 h2
        rw [List.getElem?_set]
        by_cases e : size - 1 - j = k
        · rw [if_pos e, if_pos (by omega)]
          subst e
          simp only [fixedB, List.getElem?_map, List.getElem?_range (show size - 1 - j < size by omega), Option.map_some]
          rw [show size - 1 - (size - 1 - j) = j by omega]
        · rw [if_neg e]
          exact hk k (by omega) h2
      · show ((size : Int) - IntKind.i64.wrap (_ : Int)).toNat < ((size : Int) - j).toNat
        rw [w64 (by omega)]; omega
  · have hj' : j = size := by simp at hlt; omega
    subst hj'
    have : ys = fixedB n j := by
      apply List.ext_getElem?
      intro k
      rcases Nat.lt_or_ge k j with h | h
      · exact hk k (by omega) h
      · rw [List.getElem?_eq_none (by omega), List.getElem?_eq_none (by rw [fixedB_length]; omega)]
    subst this
    refine ⟨⟨by simp [bvs], .inr ⟨w.heap.size, j, _, ?_, Nat.zero_le _, hb1, by simp [fixedB_length], by simp only [maxLen]; omega, by simp [fixedB_length], List.take_of_length_le (by simp [fixedB_length])⟩⟩, hf1, fun b hb => ?_⟩
    · rw [fixedB_length]; rfl
    · have : w.heap.size = b := Option.some.inj hb
      omega

end Go.Proofs.Yticgmchbihakkaa

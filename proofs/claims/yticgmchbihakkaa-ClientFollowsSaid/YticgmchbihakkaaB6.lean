/- Records and batches: what they are in memory; text, within, record, Times. -/
import Derived.Test.YticgmchbihakkaaB5
set_option linter.unusedVariables false
set_option linter.unusedSimpArgs false
namespace Go.Proofs.Yticgmchbihakkaa
open Go Go.Den
set_option maxRecDepth 100000

structure Rec where
  off : Int
  time : Int
  hk : Bool
  key : Bytes
  hv : Bool
  val : Bytes
structure Bat where
  base : Int
  last : Int
  prod : Int
  epoch : Int
  seq : Int
  recs : List Rec

/-- A []byte in blocks of D. -/
def IsBD (w : World) (D : Nat → Prop) (v : Value) (xs : Bytes) : Prop := ∃ G, IsB w v G xs ∧ ∀ b, G = some b → D b
/-- A record's cells. -/
def IsRec (w : World) (D : Nat → Prop) (cs : List Value) (r : Rec) : Prop := ∃ k v, cs = [vi r.off, vi r.time, .bool r.hk, k, .bool r.hv, v] ∧ IsBD w D k r.key ∧ IsBD w D v r.val
def RecCells (w : World) (D : Nat → Prop) : List Rec → List Value → Prop
  | [], l => l = []
  | r :: rs, l => ∃ cs l', l = cs ++ l' ∧ IsRec w D cs r ∧ RecCells w D rs l'
/-- A []Record that reads as rs. -/
def IsRecs (w : World) (D : Nat → Prop) (v : Value) (rs : List Rec) : Prop :=
  ∃ A cap, v = .slice A rs.length cap ∧ (A = none → rs.length = 0 ∧ cap = 0) ∧ rs.length ≤ cap ∧ cap ≤ maxLen ∧ (rs ≠ [] → ∃ b o c t fz cells, A = some ⟨b, o, none⟩ ∧ D b ∧ w.heap[b]? = some (.cells c t fz) ∧ RecCells w D rs cells ∧ ∀ j u, cells[j]? = some u → c[o + j]? = some u)
def batV (b : Bat) (rv : Value) : List Value := [vi b.base, vi b.last, vi b.prod, vi b.epoch, vi b.seq, rv]
def IsBat (w : World) (D : Nat → Prop) (v : Value) (b : Bat) : Prop := ∃ rv, v = .agg (batV b rv).toArray ∧ IsRecs w D rv b.recs

/-- What a step leaves: the blocks of D are not among those that it turned. -/
def Apart (w : World) (D E : Nat → Prop) : Prop := ∀ k, k < w.heap.size → D k → ¬ E k
theorem Apart.none (w : World) (D : Nat → Prop) : Apart w D None := fun _ _ _ h => h

theorem IsBD.fr {w w' : World} {D E : Nat → Prop} {v : Value} {xs : Bytes} (h : IsBD w D v xs) (hf : Fr E w w') (ha : Apart w D E) : IsBD w' D v xs := by
  obtain ⟨G, h1, h2⟩ := h
  exact ⟨G, h1.fr hf fun b hb hl => ha b hl (h2 b hb), h2⟩
theorem IsBD.mono {w : World} {D E : Nat → Prop} {v : Value} {xs : Bytes} (h : IsBD w D v xs) (hd : ∀ k, k < w.heap.size → D k → E k) : IsBD w E v xs := by
  obtain ⟨G, h1, h2⟩ := h
  exact ⟨G, h1, fun b hb => hd b (h1.lt b hb) (h2 b hb)⟩
theorem IsRec.fr {w w' : World} {D E : Nat → Prop} {cs : List Value} {r : Rec} (h : IsRec w D cs r) (hf : Fr E w w') (ha : Apart w D E) : IsRec w' D cs r := by
  obtain ⟨k, v, h1, h2, h3⟩ := h
  exact ⟨k, v, h1, h2.fr hf ha, h3.fr hf ha⟩
theorem IsRec.mono {w : World} {D E : Nat → Prop} {cs : List Value} {r : Rec} (h : IsRec w D cs r) (hd : ∀ k, k < w.heap.size → D k → E k) : IsRec w E cs r := by
  obtain ⟨k, v, h1, h2, h3⟩ := h
  exact ⟨k, v, h1, h2.mono hd, h3.mono hd⟩
theorem RecCells.fr {w w' : World} {D E : Nat → Prop} (hf : Fr E w w') (ha : Apart w D E) : ∀ {rs : List Rec} {l : List Value}, RecCells w D rs l → RecCells w' D rs l
  | [], _, h => h
  | r :: rs, _, ⟨cs, l', h1, h2, h3⟩ => ⟨cs, l', h1, h2.fr hf ha, RecCells.fr hf ha h3⟩
theorem RecCells.mono {w : World} {D E : Nat → Prop} (hd : ∀ k, k < w.heap.size → D k → E k) : ∀ {rs : List Rec} {l : List Value}, RecCells w D rs l → RecCells w E rs l
  | [], _, h => h
  | r :: rs, _, ⟨cs, l', h1, h2, h3⟩ => ⟨cs, l', h1, h2.mono hd, RecCells.mono hd h3⟩
theorem IsRec.len {w : World} {D : Nat → Prop} {cs : List Value} {r : Rec} (h : IsRec w D cs r) : cs.length = 6 := by
  obtain ⟨k, v, rfl, _⟩ := h; rfl
theorem RecCells.len {w : World} {D : Nat → Prop} : ∀ {rs : List Rec} {l : List Value}, RecCells w D rs l → l.length = rs.length * 6
  | [], _, h => by cases h; rfl
  | r :: rs, _, ⟨cs, l', h1, h2, h3⟩ => by
    subst h1
    rw [List.length_append, h2.len, RecCells.len h3, List.length_cons]; omega
theorem RecCells.get {w : World} {D : Nat → Prop} : ∀ {rs : List Rec} {l : List Value} (j : Nat) {r : Rec}, RecCells w D rs l → rs[j]? = some r → ∃ cs, IsRec w D cs r ∧ ∀ i u, cs[i]? = some u → l[j * 6 + i]? = some u
  | [], _, j, r, h, hj => by simp at hj
  | r0 :: rs, _, 0, r, ⟨cs, l', h1, h2, h3⟩, hj => by
    simp at hj
    subst hj; subst h1
    refine ⟨cs, h2, fun i u hu => ?_⟩
    rw [Nat.zero_mul, Nat.zero_add, List.getElem?_append_left (List.getElem?_eq_some_iff.1 hu).1]
    exact hu
  | r0 :: rs, _, j + 1, r, ⟨cs, l', h1, h2, h3⟩, hj => by
    obtain ⟨cs', k1, k2⟩ := RecCells.get j h3 (by simpa using hj)
    subst h1
    refine ⟨cs', k1, fun i u hu => ?_⟩
    have := k2 i u hu
    rw [List.getElem?_append_right (by rw [h2.len]; omega), h2.len]
    rwa [show (j + 1) * 6 + i - 6 = j * 6 + i by omega]
theorem RecCells.snoc {w : World} {D : Nat → Prop} {r : Rec} {cs : List Value} (hr : IsRec w D cs r) : ∀ {rs : List Rec} {l : List Value}, RecCells w D rs l → RecCells w D (rs ++ [r]) (l ++ cs)
  | [], _, h => by cases h; exact ⟨cs, [], by simp, hr, rfl⟩
  | r0 :: rs, _, ⟨cs0, l', h1, h2, h3⟩ => by
    subst h1
    exact ⟨cs0, l' ++ cs, by simp, h2, RecCells.snoc hr h3⟩
theorem RecCells.one {w : World} {D : Nat → Prop} : ∀ {rs : List Rec} {l : List Value}, RecCells w D rs l → ∀ u ∈ l, u.oneCell' = true
  | [], _, h => by cases h; simp
  | r0 :: rs, _, ⟨cs0, l', h1, h2, h3⟩ => by
    subst h1
    intro u hu
    rcases List.mem_append.1 hu with hu | hu
    · obtain ⟨k, v, rfl, ⟨_, g1, _⟩, ⟨_, g2, _⟩⟩ := h2
      obtain ⟨_, _, rfl, _⟩ := g1.val
      obtain ⟨_, _, rfl, _⟩ := g2.val
      simp at hu
      rcases hu with rfl | rfl | rfl | rfl | rfl | rfl <;> rfl
    · exact RecCells.one h3 u hu

theorem IsRecs.fr {w w' : World} {D E : Nat → Prop} {v : Value} {rs : List Rec} (h : IsRecs w D v rs) (hf : Fr E w w') (ha : Apart w D E) : IsRecs w' D v rs := by
  obtain ⟨A, cap, e, h1, h2, h3, h4⟩ := h
  refine ⟨A, cap, e, h1, h2, h3, fun hne => ?_⟩
  obtain ⟨b, o, c, t, fz, cells, e1, e2, e3, e4, e5⟩ := h4 hne
  exact ⟨b, o, c, t, fz, cells, e1, e2, hf.blk e3 (ha b (lt_of_blk e3) e2), e4.fr hf ha, e5⟩
theorem IsRecs.mono {w : World} {D E : Nat → Prop} {v : Value} {rs : List Rec} (h : IsRecs w D v rs) (hd : ∀ k, k < w.heap.size → D k → E k) : IsRecs w E v rs := by
  obtain ⟨A, cap, e, h1, h2, h3, h4⟩ := h
  refine ⟨A, cap, e, h1, h2, h3, fun hne => ?_⟩
  obtain ⟨b, o, c, t, fz, cells, e1, e2, e3, e4, e5⟩ := h4 hne
  exact ⟨b, o, c, t, fz, cells, e1, hd b (lt_of_blk e3) e2, e3, e4.mono hd, e5⟩
theorem IsRecs.val {w : World} {D : Nat → Prop} {v : Value} {rs : List Rec} (h : IsRecs w D v rs) : ∃ A c, v = .slice A rs.length c ∧ rs.length ≤ 9223372036854775807 := by
  obtain ⟨A, cap, e, h1, h2, h3, h4⟩ := h
  exact ⟨A, cap, e, by simp only [maxLen] at h3; omega⟩
/-- A record of it. -/
theorem IsRecs.at {w : World} {D : Nat → Prop} {A : Option Addr} {n c : Nat} {rs : List Rec} (h : IsRecs w D (.slice A n c) rs) (i : Nat) (hi : i < n) :
    ∃ a r cs, A = some a ∧ rs[i]? = some r ∧ IsRec w D cs r ∧ cellsAt w (a.add (i * 6)) 0 cs := by
  obtain ⟨A', cap, e, h1, h2, h3, h4⟩ := h
  cases e
  obtain ⟨b, o, c, t, fz, cells, e1, e2, e3, e4, e5⟩ := h4 (fun h => by subst h; simp at hi)
  obtain ⟨cs, k1, k2⟩ := e4.get i (List.getElem?_eq_getElem hi)
  refine ⟨_, _, cs, e1, List.getElem?_eq_getElem hi, k1, cellsAt_of fun j u hj => ?_⟩
  rw [add_mk, Nat.zero_add, add_mk]
  have := e5 _ _ (k2 j u hj)
  exact cell_of e3 (by rwa [show o + i * 6 + j = o + (i * 6 + j) by omega])
theorem IsBat.fr {w w' : World} {D E : Nat → Prop} {v : Value} {b : Bat} (h : IsBat w D v b) (hf : Fr E w w') (ha : Apart w D E) : IsBat w' D v b := by
  obtain ⟨rv, h1, h2⟩ := h
  exact ⟨rv, h1, h2.fr hf ha⟩
theorem IsBat.mono {w : World} {D E : Nat → Prop} {v : Value} {b : Bat} (h : IsBat w D v b) (hd : ∀ k, k < w.heap.size → D k → E k) : IsBat w E v b := by
  obtain ⟨rv, h1, h2⟩ := h
  exact ⟨rv, h1, h2.mono hd⟩

/-! ### What the document says of them -/

def textB (has : Bool) (xs : Bytes) : Bytes := bif has then putN xs.length ++ xs else putN (-1)
def bodyB (first base : Int) (r : Rec) : Bytes := putN (r.time - first) ++ putN (r.off - base) ++ textB r.hk r.key ++ textB r.hv r.val
def lineB (first base : Int) (r : Rec) : Bytes := putN (bodyB first base r).length ++ bodyB first base r
def firstOf (b : Bat) : Int := match b.recs with | [] => 0 | r :: _ => r.time
def headB (b : Bat) : Bytes := fixedB (b.last - b.base).toNat 8 ++ fixedB (firstOf b).toNat 8 ++ fixedB b.prod.toNat 8 ++ fixedB b.epoch.toNat 2 ++ fixedB b.seq.toNat 4 ++ fixedB b.recs.length 4
def restB (b : Bat) : Bytes := headB b ++ (b.recs.map (lineB (firstOf b) b.base)).flatten
def encB (b : Bat) : Bytes := fixedB b.base.toNat 8 ++ fixedB ((restB b).length + 4) 4 ++ fixedB (sum32 (restB b)) 4 ++ restB b

def badRec (b : Bat) (last : Int) (r : Rec) : Bool :=
  (!(decide (b.base ≤ r.off) && decide (r.off ≤ b.last)) || decide (r.off ≤ last) || !(decide (0 ≤ r.time) && decide (r.time ≤ 1125899906842624)) || (!r.hk && decide (0 < (r.key.length : Int))) || (!r.hv && decide (0 < (r.val.length : Int))))
def bigRec (r : Rec) : Bool := decide (200 < (r.key.length : Int)) || decide (2000 < (r.val.length : Int))
def chkRec (b : Bat) (last : Int) (r : Rec) : Nat := bif badRec b last r then 1 else bif bigRec r then 3 else 0
def chkRecs (b : Bat) : Int → List Rec → Nat
  | _, [] => 0
  | last, r :: rs => if chkRec b last r = 0 then chkRecs b r.off rs else chkRec b last r
def headOk (b : Bat) : Bool :=
  (decide (0 ≤ b.base) && decide (b.base ≤ 4611686018427387904)) && (decide (b.base ≤ b.last) && decide (b.last ≤ 4611686018427387904)) && (decide (0 ≤ b.prod) && decide (b.prod ≤ 1099511627776)) && (decide (0 ≤ b.epoch) && decide (b.epoch ≤ 32767)) && (decide (0 ≤ b.seq) && decide (b.seq ≤ 2147483647))
def badHead (b : Bat) : Bool := !headOk b || (decide (b.prod = 0) && (!decide (b.epoch = 0) || !decide (b.seq = 0)))
def chk (b : Bat) : Nat :=
  bif badHead b then 1 else if 100 < b.recs.length then 3 else if chkRecs b (-1) b.recs = 0 then (if 65536 < (encB b).length then 3 else 0) else chkRecs b (-1) b.recs

theorem f166 (w : World) (has : Bool) (v : Value) (G : Option Nat) (xs : Bytes) (h : IsB w v G xs) (hl : xs.length ≤ 100000000000) :
    Meets Try.prog 166 [.bool has, v] w fun v' w' => MadeB w w' v' (textB has xs) := by
  obtain ⟨A, c, rfl, _⟩ := h.val
  refine spec_of Try.func166 Try.ntmps166 Try.results166 rfl (by kernel_rfl) rfl ?_
  refine ⟨fun e => ?_, fun e => ?_⟩
  · have : has = false := by simpa using e
    subst this
    exact f165 w (-1) (by unfold i64R; omega)
  · have : has = true := by simpa using e
    subst this
    have hr : i64R (xs.length : Int) := by unfold i64R; omega
    refine (f165 w xs.length hr).mono ?_
    rintro v1 w1 h1
    obtain ⟨A1, c1, rfl⟩ := Own.ex h1.1
    have := putN_len _ hr
    obtain ⟨A', c', w3, r1, r2⟩ := made_bytes h1 (h.fr0 h1.2.1) (by omega)
    exact ⟨_, w3, r1, r2⟩

theorem f161 (w : World) (n lo hi : Int) : Meets Try.prog 161 [vi n, vi lo, vi hi] w fun v' w' => v' = .bool (decide (lo ≤ n) && decide (n ≤ hi)) ∧ w' = w := by
  refine spec_of Try.func161 Try.ntmps161 Try.results161 rfl (by kernel_rfl) rfl ?_
  exact ⟨rfl, rfl⟩

theorem f162 (w : World) (D : Nat → Prop) (r : Rec) (b : Bat) (last : Int) (cs : List Value) (vb : Value) (hr : IsRec w D cs r) (hb : IsBat w D vb b) :
    Meets Try.prog 162 [.agg cs.toArray, vb, vi last] w fun v' w' => v' = vi (chkRec b last r) ∧ Fr None w w' := by
  obtain ⟨kv, vv, rfl, ⟨Gk, hk, _⟩, ⟨Gv, hv, _⟩⟩ := hr
  obtain ⟨Ak, ck, rfl, _⟩ := hk.val
  obtain ⟨Av, cv, rfl, _⟩ := hv.val
  obtain ⟨rv, rfl, _⟩ := hb
  refine spec_of Try.func162 Try.ntmps162 Try.results162 rfl (by kernel_rfl) rfl ?_
  intro b1 w1 e1 hw1
  obtain ⟨p1, p2, p3, p4⟩ := new_of e1 hw1
  intro b2 w2 e2 hw2
  obtain ⟨q1, q2, q3, q4⟩ := new_of e2 hw2
  have p1' := q2.blk p1 (no_none _)
  refine ⟨_, rfl, _, _, ⟨rfl, cell_of p1' rfl⟩, _, rfl, _, _, ⟨rfl, cell_of q1 rfl⟩, _, rfl, _, _, ⟨rfl, cell_of q1 rfl⟩, ?_⟩
  refine (f161 w2 _ _ _).mono ?_
  rintro _ w2 ⟨rfl, rfl⟩
  refine ⟨_, fun _ => rfl, _, _, fun _ => ⟨rfl, cell_of p1' rfl⟩, _, fun _ => rfl, _, _, fun _ => ⟨rfl, cell_of p1' rfl⟩, ?_⟩
  refine .inr ⟨_, fun _ => f161 w2 _ _ _, ?_⟩
  refine ⟨_, fun _ => rfl, _, _, fun _ => ⟨rfl, cell_of p1' rfl⟩, _, fun _ _ => rfl, _, _, fun _ _ => ⟨rfl, cell_of p1' rfl⟩, _, fun _ => rfl, _, _, fun _ => ⟨rfl, cell_of p1' rfl⟩, _, fun _ _ => rfl, _, _, fun _ _ => ⟨rfl, cell_of p1' rfl⟩, ?_⟩
  have hfr : Fr None w w2 := p2.more q2
  refine ⟨fun h => ?_, fun h => ?_⟩
  · have h : badRec b last r = true := h
    simp only [chkRec, h]
    exact ⟨rfl, hfr⟩
  · have h : badRec b last r = false := h
    refine ⟨_, rfl, _, _, ⟨rfl, cell_of p1' rfl⟩, _, fun _ => rfl, _, _, fun _ => ⟨rfl, cell_of p1' rfl⟩, ?_⟩
    refine ⟨fun h2 => ?_, fun h2 => ?_⟩
    · have h2 : bigRec r = true := h2
      simp only [chkRec, h, h2]
      exact ⟨rfl, hfr⟩
    · have h2 : bigRec r = false := h2
      simp only [chkRec, h, h2]
      exact ⟨rfl, hfr⟩

theorem f122 (w : World) (D : Nat → Prop) (r : Rec) (b : Bat) (last : Int) (cs : List Value) (vb : Value) (hr : IsRec w D cs r) (hb : IsBat w D vb b) :
    Meets Try.prog 122 [.agg cs.toArray, vb, vi last] w fun v' w' => v' = vi (chkRec b last r) ∧ Fr None w w' := by
  obtain ⟨kv, vv, rfl, ⟨Gk, hk, _⟩, ⟨Gv, hv, _⟩⟩ := hr
  obtain ⟨Ak, ck, rfl, _⟩ := hk.val
  obtain ⟨Av, cv, rfl, _⟩ := hv.val
  obtain ⟨rv, rfl, _⟩ := hb
  refine spec_of Try.func122 Try.ntmps122 Try.results122 rfl (by kernel_rfl) rfl ?_
  intro b1 w1 e1 hw1
  obtain ⟨p1, p2, p3, p4⟩ := new_of e1 hw1
  intro b2 w2 e2 hw2
  obtain ⟨q1, q2, q3, q4⟩ := new_of e2 hw2
  have p1' := q2.blk p1 (no_none _)
  refine ⟨_, rfl, _, _, ⟨rfl, cell_of p1' rfl⟩, _, rfl, _, _, ⟨rfl, cell_of q1 rfl⟩, _, fun _ => rfl, _, _, fun _ => ⟨rfl, cell_of p1' rfl⟩, _, fun _ => rfl, _, _, fun _ => ⟨rfl, cell_of q1 rfl⟩, _, fun _ => rfl, _, _, fun _ => ⟨rfl, cell_of p1' rfl⟩, _, fun _ => rfl, _, _, fun _ => ⟨rfl, cell_of p1' rfl⟩, _, fun _ => rfl, _, _, fun _ => ⟨rfl, cell_of p1' rfl⟩, ?_⟩
  refine ⟨_, fun _ => rfl, _, _, fun _ => ⟨rfl, cell_of p1' rfl⟩, _, fun _ _ => rfl, _, _, fun _ _ => ⟨rfl, cell_of p1' rfl⟩, _, fun _ => rfl, _, _, fun _ => ⟨rfl, cell_of p1' rfl⟩, _, fun _ _ => rfl, _, _, fun _ _ => ⟨rfl, cell_of p1' rfl⟩, ?_⟩
  have hfr : Fr None w w2 := p2.more q2
  have hq : badRec b last r = (decide (r.off < b.base) || decide (b.last < r.off) || decide (r.off ≤ last) || decide (r.time < 0) || decide (1125899906842624 < r.time) || (!r.hk && decide (0 < (r.key.length : Int))) || (!r.hv && decide (0 < (r.val.length : Int)))) := by
    unfold badRec
    congr 2
    rw [Bool.eq_iff_iff]
    simp only [Bool.or_eq_true, Bool.not_eq_true', Bool.and_eq_false_iff, decide_eq_true_eq, decide_eq_false_iff_not]
    omega
  refine ⟨fun h => ?_, fun h => ?_⟩
  · have h : badRec b last r = true := hq.trans h
    simp only [chkRec, h]
    exact ⟨rfl, hfr⟩
  · have h : badRec b last r = false := hq.trans h
    refine ⟨_, rfl, _, _, ⟨rfl, cell_of p1' rfl⟩, _, fun _ => rfl, _, _, fun _ => ⟨rfl, cell_of p1' rfl⟩, ?_⟩
    refine ⟨fun h2 => ?_, fun h2 => ?_⟩
    · have h2 : bigRec r = true := h2
      simp only [chkRec, h, h2]
      exact ⟨rfl, hfr⟩
    · have h2 : bigRec r = false := h2
      simp only [chkRec, h, h2]
      exact ⟨rfl, hfr⟩

end Go.Proofs.Yticgmchbihakkaa

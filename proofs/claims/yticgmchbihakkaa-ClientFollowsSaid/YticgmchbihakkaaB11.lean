/- Reading records and batches: body, read, First. -/
import Derived.Test.YticgmchbihakkaaB10
set_option linter.unusedVariables false
set_option linter.unusedSimpArgs false
namespace Go.Proofs.Yticgmchbihakkaa
open Go Go.Den
set_option maxRecDepth 100000

theorem getN_nil : getN [] = none := rfl
theorem rBytes_suf (most : Int) (xs : Bytes) : ∃ k, (rBytes most (xs, 0)).2.1 = xs.drop k ∧ k ≤ xs.length := by
  unfold rBytes
  rw [if_neg (by simp)]
  cases hg : getN xs with
  | none => exact ⟨0, by simp, by simp⟩
  | some x =>
    obtain ⟨n, k⟩ := x
    obtain ⟨k0, k1, k2⟩ := getN_spec hg
    simp only []
    split
    · exact ⟨0, by simp, by simp⟩
    · rename_i hn
      split
      · exact ⟨0, by simp, by simp⟩
      · exact ⟨k + n.toNat, by simp, by simp at hn; omega⟩
theorem rNum_suf (s : Bytes × Nat) : ∃ k, (rNum s).2.1 = s.1.drop k ∧ k ≤ s.1.length := by
  unfold rNum
  split
  · exact ⟨0, by simp, by simp⟩
  · cases hg : getN s.1 with
    | none => exact ⟨0, by simp, by simp⟩
    | some x =>
      obtain ⟨n, k⟩ := x
      exact ⟨k, rfl, (getN_spec hg).2.1⟩
theorem rOpt_suf (xs : Bytes) : ∃ k, (rOpt xs).2.2.1 = xs.drop k ∧ k ≤ xs.length := by
  unfold rOpt
  split
  · exact rNum_suf (xs, 0)
  · exact rBytes_suf 65536 xs

/-- A record of bytes. -/
def recD (p : Bytes) (base first : Int) : Option Rec :=
  let t := rNum (p, 0)
  let o := rNum t.2
  if o.2.2 ≠ 0 then none else
  let k := rOpt o.2.1
  if k.2.2.2 ≠ 0 then none else
  let v := rOpt k.2.2.1
  if v.2.2.2 = 0 ∧ v.2.2.1 = [] then some ⟨IntKind.i64.wrap (base + o.1), IntKind.i64.wrap (first + t.1), k.1, k.2.1, v.1, v.2.1⟩ else none

/-- Six cells, whatever they are. -/
def Six (v : Value) : Prop := ∃ cs : List Value, v = .agg cs.toArray ∧ cs.length = 6 ∧ ∀ u ∈ cs, u.oneCell' = true

def BodyV (w w' : World) (v : Value) (r : Option Rec) : Prop :=
  Fr None w w' ∧ ∃ u, v = .tuple #[u, .bool r.isSome] ∧ Six u ∧ match r with
    | some r => ∃ cs, u = .agg cs.toArray ∧ IsRec w' (From w.heap.size) cs r
    | none => True

theorem IsB.toBD {w : World} {v : Value} {G : Option Nat} {xs : Bytes} {B : Nat} (h : IsB w v G xs) (hg : ∀ b, G = some b → B ≤ b) : IsBD w (From B) v xs := ⟨G, h, hg⟩

theorem f184 (w : World) (v : Value) (G : Option Nat) (p : Bytes) (base first : Int) (h : IsB w v G p) (hl : p.length ≤ 100000000000) :
    Meets Try.prog 184 [v, vi base, vi first] w fun v' w' => BodyV w w' v' (recD p base first) := by
  obtain ⟨A, c, rfl, _⟩ := h.val
  refine spec_of Try.func184 Try.ntmps184 Try.results184 rfl (by kernel_rfl) rfl ?_
  intro b1 w1 e1 hw1
  obtain ⟨p1, p2, p3, p4⟩ := new_of e1 hw1
  have p1 : w1.heap[b1]? = some (.cells #[vi 0, vi 0, .bool false, .slice none 0 0, .bool false, .slice none 0 0] 47 (0, 0)) := p1
  refine (f88 w1 _ G p (h.fr0 p2) hl).mono ?_
  rintro _ w2 ⟨a, G2, rfl, r2, f2, la, lG⟩
  have lb1 : b1 < w1.heap.size := by omega
  -- whatever the reader does, the record's block stays
  have stay : ∀ {u u' : World} {c : Array Value}, u.heap[b1]? = some (.cells c 47 (0, 0)) → Fr (· = a) u u' → u'.heap[b1]? = some (.cells c 47 (0, 0)) := fun hu hf => hf.blk hu fun e => by omega
  have keep : ∀ {u u' : World} {xs : Bytes} {e : Nat}, IsR u a G2 xs e → Fr (· = b1) u u' → IsR u' a G2 xs e := fun hr hf => hr.fr hf (fun e => by omega) fun b hb _ e => by have := lG b hb; omega
  have fN : ∀ {u u' : World}, Fr None w u → Fr (· = a) u u' → Fr None w u' := fun h1 h2 => fr_new_set h1 h2 (by have := p2.size; omega)
  have fB : ∀ {u u' : World}, Fr None w u → Fr (· = b1) u u' → Fr None w u' := fun h1 h2 => fr_new_set h1 h2 (by omega)
  have hb2 := f2.blk p1 (no_none _)
  have hx2 : IsB w2 _ G p := (h.fr0 p2).fr0 f2
  refine (f90 w2 a G2 p 0 r2).mono ?_
  rintro _ w3 ⟨rfl, r3, f3⟩
  have hb3 := stay hb2 f3
  refine ⟨_, rfl, st_ok (i := 1) hb3 (by simp) rfl, fun w4 hw4 => ?_⟩
  obtain ⟨s1, s2, s3⟩ := st_fx (i := 1) hb3 hw4
  have r4 := keep r3 s2
  refine (f90 w4 a G2 _ _ r4).mono ?_
  rintro _ w5 ⟨rfl, r5, f5⟩
  have hb5 := stay s1 f5
  refine ⟨_, rfl, st_ok (i := 0) hb5 (by simp) rfl, fun w6 hw6 => ?_⟩
  obtain ⟨t1, t2, t3⟩ := st_fx (i := 0) hb5 hw6
  have r6 := keep r5 t2
  have fr6 : Fr None w w6 := fB (fN (fB (fN (p2.more f2) f3) s2) f5) t2
  have hx6 : IsB w6 _ G p := ((((hx2.fr f3 fun b hb _ e => by have := h.lt b hb; have := p2.size; omega).fr s2 fun b hb _ e => by have := h.lt b hb; omega).fr f5 fun b hb _ e => by have := h.lt b hb; have := p2.size; omega).fr t2 fun b hb _ e => by have := h.lt b hb; omega)
  refine (f92 w6 a G2 _ _ r6).mono ?_
  rintro _ w6 ⟨rfl, rfl⟩
  generalize hT : rNum (p, 0) = T at *
  generalize hO : rNum (T.2.1, T.2.2) = O at *
  have hO' : rNum T.2 = O := hO
  have t1 : w6.heap[b1]? = some (.cells #[vi (IntKind.i64.wrap (base + O.1)), vi (IntKind.i64.wrap (first + T.1)), .bool false, .slice none 0 0, .bool false, .slice none 0 0] 47 (0, 0)) := t1
  -- a record that fails
  have fail : ∀ (u : World) (cs : List Value), Fr None w u → u.heap[b1]? = some (.cells cs.toArray 47 (0, 0)) → cs.length = 6 → (∀ x ∈ cs, x.oneCell' = true) → recD p base first = none →
      cellsAt u ⟨b1, 0, none⟩ 0 cs ∧ wrAt u ⟨b1, 0, none⟩ 0 cs ∧ ∀ u', u' = setCells u ⟨b1, 0, none⟩ 0 cs → cellsAt u' ⟨b1, 0, none⟩ 0 cs ∧ BodyV w u' (.tuple #[.agg cs.toArray, .bool false]) (recD p base first) := by
    intro u cs hu hc hl h1 hn
    refine ⟨cellsAt_of fun j v hj => by rw [add_mk, Nat.zero_add]; exact cell_of hc (by simpa using hj), sta_ok hc (by simp) h1, fun u' hu' => ?_⟩
    obtain ⟨k1, k2, k3⟩ := sta_fx (vs := cs) hc (by simp) h1 hu'
    refine ⟨cellsAt_of fun j v hj => by rw [add_mk, Nat.zero_add]; exact cell_of k1 (by simpa using hj), fB hu k2, _, ?_, ⟨cs, rfl, hl, h1⟩, ?_⟩
    · rw [hn]; rfl
    · rw [hn]; trivial
  refine ⟨fun he => ?_, fun he => ?_⟩
  · have he : O.2.2 ≠ 0 := by simp at he; omega
    have hn : recD p base first = none := by simp only [recD, hT, hO']; rw [if_pos he]
    obtain ⟨k1, k2, k3⟩ := fail w6 _ fr6 t1 rfl (by intro x hx; simp at hx; rcases hx with rfl | rfl | rfl | rfl | rfl | rfl <;> rfl) hn
    refine ⟨_, _, ⟨rfl, rfl, k1⟩, k2, fun w7 hw7 => ?_⟩
    obtain ⟨k4, k5⟩ := k3 w7 hw7
    exact ⟨_, ⟨rfl, k4⟩, k5⟩
  have he : O.2.2 = 0 := by simp at he; omega
  obtain ⟨m1, hm1, hm1'⟩ := rNum_suf (p, 0)
  obtain ⟨m2, hm2, hm2'⟩ := rNum_suf (T.2.1, T.2.2)
  rw [hT] at hm1
  rw [hO] at hm2
  have hs2 : O.2.1 = p.drop (m1 + m2) := by rw [hm2, hm1, List.drop_drop]
  have hl2 : m1 + m2 ≤ p.length := by
    have : T.2.1.length = p.length - m1 := by rw [hm1]; simp
    simp only [this] at hm2'
    have : m1 ≤ p.length := hm1'
    omega
  rw [he] at r6
  refine (f205 w6 a G2 O.2.1 _ G p (m1 + m2) r6 hx6 hl2 hs2 hl).mono ?_
  rintro _ w7 ⟨f7, ⟨u7, G7, rfl, g7, i7⟩, r7⟩
  have hb7 := stay t1 f7
  obtain ⟨A7, c7, rfl, _⟩ := i7.val
  refine ⟨_, rfl, st_ok (i := 2) hb7 (by simp) rfl, fun w8 hw8 => ?_⟩
  obtain ⟨s1, s2, s3⟩ := st_fx (i := 2) hb7 hw8
  refine ⟨_, rfl, st_ok (i := 3) s1 (by simp) rfl, fun w9 hw9 => ?_⟩
  obtain ⟨q1, q2, q3⟩ := st_fx (i := 3) s1 hw9
  have r9 := keep (keep r7 s2) q2
  have fr9 : Fr None w w9 := fB (fB (fN fr6 f7) s2) q2
  have z6 := fr6.size
  have G7ne : ∀ b, G7 = some b → b ≠ b1 ∧ b ≠ a ∧ w.heap.size ≤ b := fun b hb => by
    have h1 := g7 b hb
    have h2 := lt_of_blk t1
    have h3 := r6.lt
    omega
  have i9 := (i7.fr s2 fun b hb _ => (G7ne b hb).1).fr q2 fun b hb _ => (G7ne b hb).1
  have hx9 : IsB w9 _ G p := ((hx6.fr f7 fun b hb _ e => by have := h.lt b hb; have := p2.size; omega).fr s2 fun b hb _ e => by have := h.lt b hb; omega).fr q2 fun b hb _ e => by have := h.lt b hb; omega
  generalize hK : rOpt O.2.1 = K at *
  have q1 : w9.heap[b1]? = some (.cells #[vi (IntKind.i64.wrap (base + O.1)), vi (IntKind.i64.wrap (first + T.1)), .bool K.1, .slice A7 K.2.1.length c7, .bool false, .slice none 0 0] 47 (0, 0)) := q1
  refine (f92 w9 a G2 _ _ r9).mono ?_
  rintro _ w9 ⟨rfl, rfl⟩
  refine ⟨fun hk => ?_, fun hk => ?_⟩
  · have hk : K.2.2.2 ≠ 0 := by simp at hk; omega
    have hn : recD p base first = none := by simp only [recD, hT, hO']; rw [if_neg (by simpa using he), hK, if_pos hk]
    obtain ⟨k1, k2, k3⟩ := fail w9 _ fr9 q1 rfl (by intro x hx; simp at hx; rcases hx with rfl | rfl | rfl | rfl | rfl | rfl <;> rfl) hn
    refine ⟨_, _, ⟨rfl, rfl, k1⟩, k2, fun w7 hw7 => ?_⟩
    obtain ⟨k4, k5⟩ := k3 w7 hw7
    exact ⟨_, ⟨rfl, k4⟩, k5⟩
  have hk : K.2.2.2 = 0 := by simp at hk; omega
  obtain ⟨m3, hm3, hm3'⟩ := rOpt_suf O.2.1
  rw [hK] at hm3
  have hs3 : K.2.2.1 = p.drop (m1 + m2 + m3) := by rw [hm3, hs2, List.drop_drop]
  have hl3 : m1 + m2 + m3 ≤ p.length := by
    have : O.2.1.length = p.length - (m1 + m2) := by rw [hs2]; simp
    omega
  rw [hk] at r9
  refine (f205 w9 a G2 K.2.2.1 _ G p _ r9 hx9 hl3 hs3 hl).mono ?_
  rintro _ w10 ⟨f10, ⟨u10, G10, rfl, g10, i10⟩, r10⟩
  have hb10 := stay q1 f10
  obtain ⟨A10, c10, rfl, _⟩ := i10.val
  refine ⟨_, rfl, st_ok (i := 4) hb10 (by simp) rfl, fun w11 hw11 => ?_⟩
  obtain ⟨s1', s2', s3'⟩ := st_fx (i := 4) hb10 hw11
  refine ⟨_, rfl, st_ok (i := 5) s1' (by simp) rfl, fun w12 hw12 => ?_⟩
  obtain ⟨q1', q2', q3'⟩ := st_fx (i := 5) s1' hw12
  have r12 := keep (keep r10 s2') q2'
  have fr12 : Fr None w w12 := fB (fB (fN fr9 f10) s2') q2'
  generalize hV : rOpt K.2.2.1 = V at *
  have G10ne : ∀ b, G10 = some b → b ≠ b1 ∧ b ≠ a ∧ w.heap.size ≤ b := fun b hb => by
    have h1 := g10 b hb
    have h2 := lt_of_blk q1
    have h3 := r9.lt
    have := fr9.size
    omega
  have i12 := (i10.fr s2' fun b hb _ => (G10ne b hb).1).fr q2' fun b hb _ => (G10ne b hb).1
  have k12 := ((i9.fr f10 fun b hb _ => (G7ne b hb).2.1).fr s2' fun b hb _ => (G7ne b hb).1).fr q2' fun b hb _ => (G7ne b hb).1
  have q1' : w12.heap[b1]? = some (.cells #[vi (IntKind.i64.wrap (base + O.1)), vi (IntKind.i64.wrap (first + T.1)), .bool K.1, .slice A7 K.2.1.length c7, .bool V.1, .slice A10 V.2.1.length c10] 47 (0, 0)) := q1'
  have one : ∀ x ∈ [vi (IntKind.i64.wrap (base + O.1)), vi (IntKind.i64.wrap (first + T.1)), .bool K.1, .slice A7 K.2.1.length c7, .bool V.1, .slice A10 V.2.1.length c10], x.oneCell' = true := by intro x hx; simp at hx; rcases hx with rfl | rfl | rfl | rfl | rfl | rfl <;> rfl
  have ld : ∀ u : World, u.heap[b1]? = some (.cells #[vi (IntKind.i64.wrap (base + O.1)), vi (IntKind.i64.wrap (first + T.1)), .bool K.1, .slice A7 K.2.1.length c7, .bool V.1, .slice A10 V.2.1.length c10] 47 (0, 0)) → cellsAt u ⟨b1, 0, none⟩ 0 [vi (IntKind.i64.wrap (base + O.1)), vi (IntKind.i64.wrap (first + T.1)), .bool K.1, .slice A7 K.2.1.length c7, .bool V.1, .slice A10 V.2.1.length c10] := fun u hu =>
    cellsAt_of fun j v hj => by rw [add_mk, Nat.zero_add]; exact cell_of hu (by simpa using hj)
  refine ⟨hs [0, 1] (.one 2 true (hs [3, 4, 5] (.one 6 true (hs [7, 8] (.one 9 false (hs [10] .nil)))))), fun u => u.heap[b1]? = some (.cells #[vi (IntKind.i64.wrap (base + O.1)), vi (IntKind.i64.wrap (first + T.1)), .bool K.1, .slice A7 K.2.1.length c7, .bool V.1, .slice A10 V.2.1.length c10] 47 (0, 0)), by kernel_rfl, by kernel_rfl, q1', ?_⟩
  refine ⟨_, _, ⟨rfl, rfl, ld⟩, ?_⟩
  have rd : IsR w12.drew a G2 V.2.2.1 V.2.2.2 := r12.fr (Fr.refl None _).drew (no_none _) fun _ _ _ => id
  refine (f92 w12.drew a G2 _ _ rd).mono ?_
  rintro _ w13 ⟨rfl, rfl⟩
  refine ⟨q1', ?_⟩
  refine .inr ⟨_, fun _ => f93 w12.drew a G2 _ _ rd, ?_⟩
  refine ⟨q1', ?_⟩
  refine ⟨sta_ok (vs := [vi (IntKind.i64.wrap (base + O.1)), vi (IntKind.i64.wrap (first + T.1)), .bool K.1, .slice A7 K.2.1.length c7, .bool V.1, .slice A10 V.2.1.length c10]) (w := w12.drew) q1' rfl one, fun w14 hw14 => ?_⟩
  obtain ⟨y1, y2, y3⟩ := sta_fx (vs := [vi (IntKind.i64.wrap (base + O.1)), vi (IntKind.i64.wrap (first + T.1)), .bool K.1, .slice A7 K.2.1.length c7, .bool V.1, .slice A10 V.2.1.length c10]) (w := w12.drew) q1' rfl one hw14
  refine ⟨_, ⟨rfl, ld w14 y1⟩, ?_⟩
  have fr14 : Fr None w w14 := fB fr12.drew y2
  have hok : (decide ((V.2.2.2 : Int) = 0) && decide (((if V.2.2.2 = 0 then V.2.2.1.length else 0 : Nat) : Int) = 0)) = decide (V.2.2.2 = 0 ∧ V.2.2.1 = []) := by
    rw [Bool.eq_iff_iff]
    simp only [Bool.and_eq_true, decide_eq_true_eq]
    constructor
    · rintro ⟨h1, h2⟩
      have h1 : V.2.2.2 = 0 := by omega
      rw [if_pos h1] at h2
      exact ⟨h1, List.eq_nil_of_length_eq_zero (by omega)⟩
    · rintro ⟨h1, h2⟩
      rw [if_pos h1, h2]
      exact ⟨by omega, rfl⟩
  have hres : recD p base first = if V.2.2.2 = 0 ∧ V.2.2.1 = [] then some ⟨IntKind.i64.wrap (base + O.1), IntKind.i64.wrap (first + T.1), K.1, K.2.1, V.1, V.2.1⟩ else none := by
    simp only [recD, hT, hO']
    rw [if_neg (by simpa using he), hK, if_neg (by simpa using hk), hV]
  refine ⟨fr14, _, ?_, ⟨_, rfl, rfl, one⟩, ?_⟩
  · show Value.tuple #[_, .bool (decide ((V.2.2.2 : Int) = 0) && decide (((if V.2.2.2 = 0 then V.2.2.1.length else 0 : Nat) : Int) = 0))] = _
    rw [hok, hres]
    congr 2
    by_cases hv : V.2.2.2 = 0 ∧ V.2.2.1 = []
    · rw [if_pos hv, decide_eq_true hv]; rfl
    · rw [if_neg hv, decide_eq_false hv]; rfl
  · rw [hres]
    by_cases hv : V.2.2.2 = 0 ∧ V.2.2.1 = []
    · rw [if_pos hv]
      refine ⟨_, rfl, _, _, rfl, ?_, ?_⟩
      · exact ((k12.fr (Fr.refl None _).drew fun _ _ _ => id).fr y2 fun b hb _ => (G7ne b hb).1).toBD fun b hb => (G7ne b hb).2.2
      · exact ((i12.fr (Fr.refl None _).drew fun _ _ _ => id).fr y2 fun b hb _ => (G10ne b hb).1).toBD fun b hb => (G10ne b hb).2.2
    · rw [if_neg hv]; trivial

end Go.Proofs.Yticgmchbihakkaa

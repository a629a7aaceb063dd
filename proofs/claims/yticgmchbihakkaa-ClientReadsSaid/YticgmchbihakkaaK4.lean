/- cordwainalike's Sum, Batch, Batches. -/
import Derived.Test.YticgmchbihakkaaK3
set_option linter.unusedVariables false
set_option linter.unusedSimpArgs false
namespace Go.Proofs.Yticgmchbihakkaa
open Go Go.Den
set_option maxRecDepth 100000

def numR : Rp Int := .plain 3 1 (fun x => [vi x]) (fun _ => rfl) (fun a u hu => by simp at hu; rcases hu with rfl; rfl) (by decide)

/-- An object that no one turns. -/
def ob (b : Nat) (o : Obj) : PP := ⟨fun w I => I b ∧ w.heap[b]? = some o, fun h k => ⟨h.1, k.blk h.2 h.1⟩, fun h k => ⟨k _ (lt_of_blk h.2) h.1, h.2⟩⟩

section
variable {Γ : List PP} {L : List HP} {w : World}

theorem _root_.Go.Den.Sat.obAt (h : Sat Γ L w) {b : Nat} {o : Obj} (hm : ob b o ∈ Γ) : w.heap[b]? = some o := by
  obtain ⟨I, _, h⟩ := h.pers hm
  exact h.2
theorem _root_.Go.Den.Sat.slOb (h : Sat Γ L w) {α : Type} {R : Rp α} {A : Option Addr} {n c : Nat} {xs : List α} (hm : R.sl (.slice A n c) xs ∈ Γ) (i : Nat) (hi : i < n) :
    ∃ a x cs o, A = some a ∧ xs[i]? = some x ∧ cs.length = R.sz ∧ (∀ u : World, u.heap[a.block]? = some o → cellsAt u (a.add (i * R.sz)) 0 cs) ∧ Sat (ob a.block o :: R.el cs x :: Γ) L w := by
  obtain ⟨ow, h1, h2, h3⟩ := h.ex
  obtain ⟨A', cap, e, g1, g2, g3, g4⟩ := h2 _ hm
  cases e
  obtain ⟨b, o, c, t, fz, cells, e1, e2, e3, e4, e5⟩ := g4 (fun h => by subst h; simp at hi)
  obtain ⟨cs, k1, k2⟩ := Rp.cells_get i e4 (List.getElem?_eq_getElem hi)
  refine ⟨_, _, cs, .cells c t fz, e1, List.getElem?_eq_getElem hi, R.len k1, fun u hu => cellsAt_of fun j v hj => ?_, ow, h1, fun q hq => ?_, h3⟩
  · simp only [add_mk, Nat.zero_add]
    have := e5 _ _ (k2 j v hj)
    exact cell_of hu (by rwa [show o + i * R.sz + j = o + (i * R.sz + j) by omega])
  · rcases List.mem_cons.1 hq with rfl | hq
    · exact ⟨e2, e3⟩
    rcases List.mem_cons.1 hq with rfl | hq
    · exact k1
    · exact h2 q hq
theorem _root_.Go.Den.Sat.recOf (h : Sat Γ L w) {cs : List Value} {r : Rec} (hm : recR.el cs r ∈ Γ) : ∃ kv vv, cs = recC r kv vv ∧ Sat (byt kv r.key :: byt vv r.val :: Γ) L w := by
  obtain ⟨ow, h1, h2, h3⟩ := h.ex
  obtain ⟨kv, vv, e, hk, hv⟩ := h2 _ hm
  refine ⟨kv, vv, e, ow, h1, fun q hq => ?_, h3⟩
  rcases List.mem_cons.1 hq with rfl | hq
  · exact hk
  rcases List.mem_cons.1 hq with rfl | hq
  · exact hv
  · exact h2 q hq

theorem c31 (h : Sat Γ L w) {v : Value} {xs : List Int} (hv : numR.sl v xs ∈ Γ) (n : Int) : Meets Try.prog 31 [vi n, v] w fun v' w' => ∃ m, v' = vi m ∧ Sat Γ L w' := by
  obtain ⟨A, c, rfl, hc1, hc2, _⟩ := h.slVal hv
  simp only [maxLen] at hc2
  refine spec_of Try.func31 Try.ntmps31 Try.results31 rfl (by kernel_rfl) rfl ?_
  refine ⟨[4, 0, 5], by kernel_rfl, fun vs w' => ∃ (i : Nat) (m : Int), i ≤ xs.length ∧ vs = [vi 0, vi m, vi i] ∧ Sat Γ L w', fun vs _ => match vs with | [_, _, .int _ i] => (xs.length - i).toNat | _ => 0, ⟨0, n, by omega, rfl, h⟩, ?_⟩
  rintro _ w1 ⟨i, m, hi, rfl, hS⟩
  refine ⟨rfl, fun hlt => ?_, fun hlt => ?_⟩
  · have hlt : i < xs.length := by
      have h : decide ((i : Int) < xs.length) = true := hlt
      have := of_decide_eq_true h; omega
    obtain ⟨a, x, cs, rfl, hx, _, hcs, hS⟩ := hS.slAt hv i hlt
    obtain rfl := hS.plain mh
    have hcell : w1.cell? ((a.add (i * 1)).add 0) = some (vi x) := cellsAt_get hcs (i := 0) rfl
    rw [add_add'] at hcell
    have ei : IntKind.i64.wrap ((i : Int) + 1) = ((i + 1 : Nat) : Int) := w64 (by omega)
    refine ⟨a, fun _ => ⟨rfl, by omega, by omega⟩, _, vi x, fun _ => ⟨rfl, hcell⟩, ?_⟩
    refine ⟨fun hc => ⟨_, rfl, hS.tail⟩, fun hc => ?_⟩
    refine ⟨a, ⟨rfl, by omega, by omega⟩, _, vi x, ⟨rfl, hcell⟩, ?_⟩
    refine ⟨⟨i + 1, IntKind.i64.wrap (m + x), hlt, ?_, hS.tail⟩, ?_⟩
    · show [_, _, vi (IntKind.i64.wrap ((i : Int) + 1))] = _
      rw [ei]
    · show (xs.length - IntKind.i64.wrap ((i : Int) + 1)).toNat < (xs.length - (i : Int)).toNat
      rw [ei]; omega
  · exact ⟨_, rfl, hS⟩

theorem c72 (h : Sat Γ L w) {v : Value} {b : Bat} (hv : bat v b ∈ Γ) : Meets Try.prog 72 [v] w fun v' w' => ∃ m, v' = vi m ∧ Sat Γ L w' := by
  obtain ⟨rv, rfl, h⟩ := h.bat hv
  obtain ⟨A, c, rfl, hc1, hc2, _⟩ := h.slVal mh
  simp only [maxLen] at hc2
  refine spec_of Try.func72 Try.ntmps72 Try.results72 rfl (by kernel_rfl) rfl ?_
  refine h.new fun b1 w1 hS => ?_
  have hS : Sat _ (.blk b1 [vi b.base, vi b.last, vi b.prod, vi b.epoch, vi b.seq, .slice A b.recs.length c] 32 :: L) w1 := hS
  refine ⟨[3, 4], by kernel_rfl, fun vs w' => ∃ (i : Nat) (m : Int), i ≤ b.recs.length ∧ vs = [vi m, vi i] ∧ Sat (recR.sl (.slice A b.recs.length c) b.recs :: Γ) (.blk b1 [vi b.base, vi b.last, vi b.prod, vi b.epoch, vi b.seq, .slice A b.recs.length c] 32 :: L) w', fun vs _ => match vs with | [_, .int _ i] => (b.recs.length - i).toNat | _ => 0, ⟨0, 1, by omega, rfl, hS⟩, ?_⟩
  rintro _ w1 ⟨i, m, hi, rfl, hS⟩
  refine ⟨rfl, ?_⟩
  refine ⟨_, rfl, _, _, ⟨rfl, cell_of (hS.blk (k := 0) rfl) rfl⟩, ?_⟩
  refine ⟨fun hlt => ?_, fun hlt => ?_⟩
  · have hlt : i < b.recs.length := by
      have h : (decide ((i : Int) < b.recs.length) && decide (m ≤ 1099511627776)) = true := hlt
      simp at h; omega
    have hS := hS.drew
    obtain ⟨a, r, cs, o, rfl, hr, _, hcs, hS⟩ := hS.slOb mh i hlt
    obtain ⟨kv, vv, rfl, hS⟩ := hS.recOf (mt mh)
    obtain ⟨K, ck, rfl, _⟩ := hS.bytVal mh
    obtain ⟨V, cv, rfl, _⟩ := hS.bytVal (mt mh)
    refine ⟨hs [0, 1, 2, 3, 4, 5, 6, 7, 8, 9, 10, 11, 12, 13, 14] (.one 15 true (.one 16 true (hs [17] .nil))), fun u => u.heap[b1]? = some (.cells #[vi b.base, vi b.last, vi b.prod, vi b.epoch, vi b.seq, .slice (some a) b.recs.length c] 32 (0, 0)) ∧ u.heap[a.block]? = some o, by kernel_rfl, by kernel_rfl, ⟨hS.blk (k := 0) rfl, hS.obAt (mt (mt mh))⟩, ?_⟩
    have hc1 : ∀ u : World, u.heap[a.block]? = some o → u.cell? ((a.add (i * 6)).add 3) = some (.slice K r.key.length ck) := fun u hu => cellsAt_get (hcs u hu) (i := 3) rfl
    have hc2 : ∀ u : World, u.heap[a.block]? = some o → u.cell? ((a.add (i * 6)).add 5) = some (.slice V r.val.length cv) := fun u hu => cellsAt_get (hcs u hu) (i := 5) rfl
    refine ⟨_, rfl, _, .slice (some a) b.recs.length c, ⟨rfl, fun u hu => cell_of hu.1 rfl⟩, a, ⟨rfl, by omega, by omega⟩, _, rfl, _, .slice K r.key.length ck, ⟨rfl, fun u hu => hc1 u hu.2⟩, _, rfl, _, .slice (some a) b.recs.length c, ⟨rfl, fun u hu => cell_of hu.1 rfl⟩, a, ⟨rfl, by omega, by omega⟩, _, rfl, _, .slice V r.val.length cv, ⟨rfl, fun u hu => hc2 u hu.2⟩, ?_⟩
    have hb : ∀ {u : World} {P : HP}, Sat (byt (.slice K r.key.length ck) r.key :: byt (.slice V r.val.length cv) r.val :: ob a.block o :: recR.el [vi r.off, vi r.time, .bool r.hk, .slice K r.key.length ck, .bool r.hv, .slice V r.val.length cv] r :: recR.sl (.slice (some a) b.recs.length c) b.recs :: Γ) (P :: .blk b1 [vi b.base, vi b.last, vi b.prod, vi b.epoch, vi b.seq, .slice (some a) b.recs.length c] 32 :: L) u → u.heap[b1]? = some (.cells #[vi b.base, vi b.last, vi b.prod, vi b.epoch, vi b.seq, .slice (some a) b.recs.length c] 32 (0, 0)) ∧ u.heap[a.block]? = some o := fun {u P} hS => ⟨hS.blk (k := 1) rfl, hS.obAt (mt (mt mh))⟩
    refine hS.new fun b5 w2 hS => ?_
    have hS : Sat _ (.blk b5 [vi 1, vi r.key.length, vi r.val.length] 3 :: .blk b1 [vi b.base, vi b.last, vi b.prod, vi b.epoch, vi b.seq, .slice (some a) b.recs.length c] 32 :: L) w2 := hS
    refine ⟨hb hS, ?_⟩
    have hS := hS.freeze (k := 0) (p := numR.sl (.slice (some ⟨b5, 0, none⟩) 3 3) [1, (r.key.length : Int), (r.val.length : Int)]) rfl fun I E ⟨h1, h2⟩ => Rp.slOk.mk' (R := numR) (xs := [1, (r.key.length : Int), (r.val.length : Int)]) (o := 0) (cap := 3) (cells := [vi 1, vi r.key.length, vi r.val.length]) (.inr h1) h2 (by simp) (by decide) ⟨[vi 1], _, rfl, rfl, ⟨[vi r.key.length], _, rfl, rfl, ⟨[vi r.val.length], [], rfl, rfl, rfl⟩⟩⟩ fun j u hj => by simpa using hj
    refine (c31 hS mh m).mono ?_
    rintro _ w3 ⟨m', rfl, hS⟩
    refine ⟨hb hS.tail, ?_⟩
    have ei : IntKind.i64.wrap ((i : Int) + 1) = ((i + 1 : Nat) : Int) := w64 (by omega)
    refine ⟨⟨i + 1, m', hlt, ?_, hS.tail.drop.sub fun q hq => ?_⟩, ?_⟩
    · show [_, vi (IntKind.i64.wrap ((i : Int) + 1))] = _
      rw [ei]
    · exact mt (mt (mt (mt hq)))
    · show (b.recs.length - IntKind.i64.wrap ((i : Int) + 1)).toNat < (b.recs.length - (i : Int)).toNat
      rw [ei]; omega
  · exact ⟨_, rfl, hS.tail.drop⟩

/-- A batch in cells. -/
def batR : Rp Bat := ⟨32, 6, fun w I cs b => ∃ rv, cs = batV b rv ∧ IsRecs w I rv b.recs,
  fun ⟨rv, e, h⟩ k => ⟨rv, e, h.fr (agr_fr k) (apart_not _ _)⟩, fun ⟨rv, e, h⟩ k => ⟨rv, e, h.mono k⟩, fun ⟨rv, e, h⟩ => by subst e; rfl,
  fun ⟨rv, e, h⟩ => by
    subst e
    obtain ⟨A, c, rfl, _⟩ := h.val
    intro u hu; simp [batV] at hu; rcases hu with rfl | rfl | rfl | rfl | rfl | rfl <;> rfl, by decide⟩
theorem _root_.Go.Den.Sat.batOf (h : Sat Γ L w) {cs : List Value} {b : Bat} (hm : batR.el cs b ∈ Γ) : Sat (bat (.agg cs.toArray) b :: Γ) L w := h.der hm fun I ⟨rv, e, h⟩ => ⟨rv, by rw [e], h⟩

theorem c23 (h : Sat Γ L w) {v : Value} {xs : List Bat} (hv : batR.sl v xs ∈ Γ) (n : Int) : Meets Try.prog 23 [v, vi n] w fun v' w' => ∃ m, v' = vi m ∧ Sat Γ L w' := by
  obtain ⟨A, c, rfl, hc1, hc2, _⟩ := h.slVal hv
  simp only [maxLen] at hc2
  refine spec_of Try.func23 Try.ntmps23 Try.results23 rfl (by kernel_rfl) rfl ?_
  refine ⟨[5, 6], by kernel_rfl, fun vs w' => ∃ (i : Nat) (m : Int), i ≤ xs.length ∧ vs = [vi m, vi i] ∧ Sat Γ L w', fun vs _ => match vs with | [_, .int _ i] => (xs.length - i).toNat | _ => 0, ⟨0, 0, by omega, rfl, h⟩, ?_⟩
  rintro _ w1 ⟨i, m, hi, rfl, hS⟩
  refine ⟨rfl, fun hlt => ?_, fun hlt => ?_⟩
  · have hlt : i < xs.length := by
      have h : (decide ((i : Int) < xs.length) && decide (m ≤ n)) = true := hlt
      simp at h; omega
    obtain ⟨a, b, cs, rfl, hb, hl, hcs, hS⟩ := hS.slAt hv i hlt
    have hS := hS.batOf mh
    refine ⟨a, ⟨rfl, by omega, by omega⟩, _, cs, ⟨rfl, hl, hcs⟩, ?_⟩
    refine (c72 hS mh).mono ?_
    rintro _ w2 ⟨m2, rfl, hS⟩
    refine hS.new fun b5 w2 hS => ?_
    have hS : Sat _ (.blk b5 [vi m2] 3 :: L) w2 := hS
    have hS := hS.freeze (k := 0) (p := numR.sl (.slice (some ⟨b5, 0, none⟩) 1 1) [m2]) rfl fun I E ⟨h1, h2⟩ => Rp.slOk.mk' (R := numR) (xs := [m2]) (o := 0) (cap := 1) (cells := [vi m2]) (.inr h1) h2 (by simp) (by decide) ⟨[vi m2], _, rfl, rfl, rfl⟩ fun j u hj => by simpa using hj
    refine (c31 hS mh m).mono ?_
    rintro _ w3 ⟨m', rfl, hS⟩
    have ei : IntKind.i64.wrap ((i : Int) + 1) = ((i + 1 : Nat) : Int) := w64 (by omega)
    refine ⟨⟨i + 1, m', hlt, ?_, hS.tail.tail.tail.drop⟩, ?_⟩
    · show [_, vi (IntKind.i64.wrap ((i : Int) + 1))] = _
      rw [ei]
    · show (xs.length - IntKind.i64.wrap ((i : Int) + 1)).toNat < (xs.length - (i : Int)).toNat
      rw [ei]; omega
  · exact ⟨_, rfl, hS⟩
end
end Go.Proofs.Yticgmchbihakkaa

/- cordwainalike's Sum, Batch, Batches. Maps: what the machine does at one whose keys are told apart by a type's own equality. client's Producer: NewProducer, Seq, own, again; Round, Block, Record, records. -/
import Derived.Test.YticgmchbihakkaaKA
import Derived.MapKept
import Derived.Laws.StructEq
import Derived.Tactics
import Derived.Tactics2
set_option linter.unusedVariables false
set_option linter.unusedSimpArgs false
namespace Go.Proofs.Yticgmchbihakkaa
open Go Go.Den
set_option maxRecDepth 100000

def numR : Rp Int := .plain 3 1 (fun x => [vi x]) (fun _ => rfl) (fun a u hu => by simp at hu; rcases hu with rfl; rfl) (by decide)

/-- An object that no one turns. -/
def ob (b : Nat) (o : Obj) : PP := ⟨fun w I => I b ∧ w.heap[b]? = some o, fun h k => ⟨h.1, k.blk h.2 h.1⟩, fun h k => ⟨k _ (lt_of_blk h.2) h.1, h.2⟩⟩

section
variable {Γ : List PP} {L : List HP} {w : World}

theorem _root_.Go.Den.Sat.obAt (h : Sat Γ L w) {b : Nat} {o : Obj} (hm : ob b o ∈ Γ) : w.heap[b]? = some o := by
  obtain ⟨I, _, h⟩ := h.pers hm
  exact h.2
theorem _root_.Go.Den.Sat.slOb (h : Sat Γ L w) {α : Type} {R : Rp α} {A : Option Addr} {n c : Nat} {xs : List α} (hm : R.sl (.slice A n c) xs ∈ Γ) (i : Nat) (hi : i < n) :
    ∃ a x cs o, A = some a ∧ xs[i]? = some x ∧ cs.length = R.sz ∧ (∀ u : World, u.heap[a.block]? = some o → cellsAt u (a.add (i * R.sz)) 0 cs) ∧ Sat (ob a.block o :: R.el cs x :: Γ) L w := by
  obtain ⟨ow, h1, h2, h3⟩ := h.ex
  obtain ⟨A', cap, e, g1, g2, g3, g4⟩ := h2 _ hm
  cases e
  obtain ⟨b, o, c, t, fz, cells, e1, e2, e3, e4, e5⟩ := g4 (fun h => by subst h; simp at hi)
  obtain ⟨cs, k1, k2⟩ := Rp.cells_get i e4 (List.getElem?_eq_getElem hi)
  refine ⟨_, _, cs, .cells c t fz, e1, List.getElem?_eq_getElem hi, R.len k1, fun u hu => cellsAt_of fun j v hj => ?_, ow, h1, fun q hq => ?_, h3⟩
  · simp only [add_mk, Nat.zero_add]
    have := e5 _ _ (k2 j v hj)
    exact cell_of hu (by rwa [show o + i * R.sz + j = o + (i * R.sz + j) by omega])
  · rcases List.mem_cons.1 hq with rfl | hq
    · exact ⟨e2, e3⟩
    rcases List.mem_cons.1 hq with rfl | hq
    · exact k1
    · exact h2 q hq
theorem _root_.Go.Den.Sat.recOf (h : Sat Γ L w) {cs : List Value} {r : Rec} (hm : recR.el cs r ∈ Γ) : ∃ kv vv, cs = recC r kv vv ∧ Sat (byt kv r.key :: byt vv r.val :: Γ) L w := by
  obtain ⟨ow, h1, h2, h3⟩ := h.ex
  obtain ⟨kv, vv, e, hk, hv⟩ := h2 _ hm
  refine ⟨kv, vv, e, ow, h1, fun q hq => ?_, h3⟩
  rcases List.mem_cons.1 hq with rfl | hq
  · exact hk
  rcases List.mem_cons.1 hq with rfl | hq
  · exact hv
  · exact h2 q hq

theorem c31 (h : Sat Γ L w) {v : Value} {xs : List Int} (hv : numR.sl v xs ∈ Γ) (n : Int) : Meets Try.prog 31 [vi n, v] w fun v' w' => ∃ m, v' = vi m ∧ Sat Γ L w' := by
  obtain ⟨A, c, rfl, hc1, hc2, _⟩ := h.slVal hv
  simp only [maxLen] at hc2
  refine spec_of Try.func31 Try.ntmps31 Try.results31 rfl (by kernel_rfl) rfl ?_
  refine ⟨[4, 0, 5], by kernel_rfl, fun vs w' => ∃ (i : Nat) (m : Int), i ≤ xs.length ∧ vs = [vi 0, vi m, vi i] ∧ Sat Γ L w', fun vs _ => match vs with | [_, _, .int _ i] => (xs.length - i).toNat | _ => 0, ⟨0, n, by omega, rfl, h⟩, ?_⟩
  rintro _ w1 ⟨i, m, hi, rfl, hS⟩
  refine ⟨rfl, fun hlt => ?_, fun hlt => ?_⟩
  · have hlt : i < xs.length := by
      have h : decide ((i : Int) < xs.length) = true := hlt
      have := of_decide_eq_true h; omega
    obtain ⟨a, x, cs, rfl, hx, _, hcs, hS⟩ := hS.slAt hv i hlt
    obtain rfl := hS.plain mh
    have hcell : w1.cell? ((a.add (i * 1)).add 0) = some (vi x) := cellsAt_get hcs (i := 0) rfl
    rw [add_add'] at hcell
    have ei : IntKind.i64.wrap ((i : Int) + 1) = ((i + 1 : Nat) : Int) := w64 (by omega)
    refine ⟨a, fun _ => ⟨rfl, by omega, by omega⟩, _, vi x, fun _ => ⟨rfl, hcell⟩, ?_⟩
    refine ⟨fun hc => ⟨_, rfl, hS.tail⟩, fun hc => ?_⟩
    refine ⟨a, ⟨rfl, by omega, by omega⟩, _, vi x, ⟨rfl, hcell⟩, ?_⟩
    refine ⟨⟨i + 1, IntKind.i64.wrap (m + x), hlt, ?_, hS.tail⟩, ?_⟩
    · show [_, _, vi (IntKind.i64.wrap ((i : Int) + 1))] = _
      rw [ei]
    · show (xs.length - IntKind.i64.wrap ((i : Int) + 1)).toNat < (xs.length - (i : Int)).toNat
      rw [ei]; omega
  · exact ⟨_, rfl, hS⟩

theorem c72 (h : Sat Γ L w) {v : Value} {b : Bat} (hv : bat v b ∈ Γ) : Meets Try.prog 72 [v] w fun v' w' => ∃ m, v' = vi m ∧ Sat Γ L w' := by
  obtain ⟨rv, rfl, h⟩ := h.bat hv
  obtain ⟨A, c, rfl, hc1, hc2, _⟩ := h.slVal mh
  simp only [maxLen] at hc2
  refine spec_of Try.func72 Try.ntmps72 Try.results72 rfl (by kernel_rfl) rfl ?_
  refine h.new fun b1 w1 hS => ?_
  have hS : Sat _ (.blk b1 [vi b.base, vi b.last, vi b.prod, vi b.epoch, vi b.seq, .slice A b.recs.length c] 32 :: L) w1 := hS
  refine ⟨[3, 4], by kernel_rfl, fun vs w' => ∃ (i : Nat) (m : Int), i ≤ b.recs.length ∧ vs = [vi m, vi i] ∧ Sat (recR.sl (.slice A b.recs.length c) b.recs :: Γ) (.blk b1 [vi b.base, vi b.last, vi b.prod, vi b.epoch, vi b.seq, .slice A b.recs.length c] 32 :: L) w', fun vs _ => match vs with | [_, .int _ i] => (b.recs.length - i).toNat | _ => 0, ⟨0, 1, by omega, rfl, hS⟩, ?_⟩
  rintro _ w1 ⟨i, m, hi, rfl, hS⟩
  refine ⟨rfl, ?_⟩
  refine ⟨_, rfl, _, _, ⟨rfl, cell_of (hS.blk (k := 0) rfl) rfl⟩, ?_⟩
  refine ⟨fun hlt => ?_, fun hlt => ?_⟩
  · have hlt : i < b.recs.length := by
      have h : (decide ((i : Int) < b.recs.length) && decide (m ≤ 1099511627776)) = true := hlt
      simp at h; omega
    have hS := hS.drew
    obtain ⟨a, r, cs, o, rfl, hr, _, hcs, hS⟩ := hS.slOb mh i hlt
    obtain ⟨kv, vv, rfl, hS⟩ := hS.recOf (mt mh)
    obtain ⟨K, ck, rfl, _⟩ := hS.bytVal mh
    obtain ⟨V, cv, rfl, _⟩ := hS.bytVal (mt mh)
    refine ⟨hs [0, 1, 2, 3, 4, 5, 6, 7, 8, 9, 10, 11, 12, 13, 14] (.one 15 true (.one 16 true (hs [17] .nil))), fun u => u.heap[b1]? = some (.cells #[vi b.base, vi b.last, vi b.prod, vi b.epoch, vi b.seq, .slice (some a) b.recs.length c] 32 (0, 0)) ∧ u.heap[a.block]? = some o, by kernel_rfl, by kernel_rfl, ⟨hS.blk (k := 0) rfl, hS.obAt (mt (mt mh))⟩, ?_⟩
    have hc1 : ∀ u : World, u.heap[a.block]? = some o → u.cell? ((a.add (i * 6)).add 3) = some (.slice K r.key.length ck) := fun u hu => cellsAt_get (hcs u hu) (i := 3) rfl
    have hc2 : ∀ u : World, u.heap[a.block]? = some o → u.cell? ((a.add (i * 6)).add 5) = some (.slice V r.val.length cv) := fun u hu => cellsAt_get (hcs u hu) (i := 5) rfl
    refine ⟨_, rfl, _, .slice (some a) b.recs.length c, ⟨rfl, fun u hu => cell_of hu.1 rfl⟩, a, ⟨rfl, by omega, by omega⟩, _, rfl, _, .slice K r.key.length ck, ⟨rfl, fun u hu => hc1 u hu.2⟩, _, rfl, _, .slice (some a) b.recs.length c, ⟨rfl, fun u hu => cell_of hu.1 rfl⟩, a, ⟨rfl, by omega, by omega⟩, _, rfl, _, .slice V r.val.length cv, ⟨rfl, fun u hu => hc2 u hu.2⟩, ?_⟩
    have hb : ∀ {u : World} {P : HP}, Sat (byt (.slice K r.key.length ck) r.key :: byt (.slice V r.val.length cv) r.val :: ob a.block o :: recR.el [vi r.off, vi r.time, .bool r.hk, .slice K r.key.length ck, .bool r.hv, .slice V r.val.length cv] r :: recR.sl (.slice (some a) b.recs.length c) b.recs :: Γ) (P :: .blk b1 [vi b.base, vi b.last, vi b.prod, vi b.epoch, vi b.seq, .slice (some a) b.recs.length c] 32 :: L) u → u.heap[b1]? = some (.cells #[vi b.base, vi b.last, vi b.prod, vi b.epoch, vi b.seq, .slice (some a) b.recs.length c] 32 (0, 0)) ∧ u.heap[a.block]? = some o := fun {u P} hS => ⟨hS.blk (k := 1) rfl, hS.obAt (mt (mt mh))⟩
    refine hS.new fun b5 w2 hS => ?_
    have hS : Sat _ (.blk b5 [vi 1, vi r.key.length, vi r.val.length] 3 :: .blk b1 [vi b.base, vi b.last, vi b.prod, vi b.epoch, vi b.seq, .slice (some a) b.recs.length c] 32 :: L) w2 := hS
    refine ⟨hb hS, ?_⟩
    have hS := hS.freeze (k := 0) (p := numR.sl (.slice (some ⟨b5, 0, none⟩) 3 3) [1, (r.key.length : Int), (r.val.length : Int)]) rfl fun I E ⟨h1, h2⟩ => Rp.slOk.mk' (R := numR) (xs := [1, (r.key.length : Int), (r.val.length : Int)]) (o := 0) (cap := 3) (cells := [vi 1, vi r.key.length, vi r.val.length]) (.inr h1) h2 (by simp) (by decide) ⟨[vi 1], _, rfl, rfl, ⟨[vi r.key.length], _, rfl, rfl, ⟨[vi r.val.length], [], rfl, rfl, rfl⟩⟩⟩ fun j u hj => by simpa using hj
    refine (c31 hS mh m).mono ?_
    rintro _ w3 ⟨m', rfl, hS⟩
    refine ⟨hb hS.tail, ?_⟩
    have ei : IntKind.i64.wrap ((i : Int) + 1) = ((i + 1 : Nat) : Int) := w64 (by omega)
    refine ⟨⟨i + 1, m', hlt, ?_, hS.tail.drop.sub fun q hq => ?_⟩, ?_⟩
    · show [_, vi (IntKind.i64.wrap ((i : Int) + 1))] = _
      rw [ei]
    · exact mt (mt (mt (mt hq)))
    · show (b.recs.length - IntKind.i64.wrap ((i : Int) + 1)).toNat < (b.recs.length - (i : Int)).toNat
      rw [ei]; omega
  · exact ⟨_, rfl, hS.tail.drop⟩

/-- A batch in cells. -/
def batR : Rp Bat := ⟨32, 6, fun w I cs b => ∃ rv, cs = batV b rv ∧ IsRecs w I rv b.recs,
  fun ⟨rv, e, h⟩ k => ⟨rv, e, h.fr (agr_fr k) (apart_not _ _)⟩, fun ⟨rv, e, h⟩ k => ⟨rv, e, h.mono k⟩, fun ⟨rv, e, h⟩ => by subst e; rfl,
  fun ⟨rv, e, h⟩ => by
    subst e
    obtain ⟨A, c, rfl, _⟩ := h.val
    intro u hu; simp [batV] at hu; rcases hu with rfl | rfl | rfl | rfl | rfl | rfl <;> rfl, by decide⟩
theorem _root_.Go.Den.Sat.batOf (h : Sat Γ L w) {cs : List Value} {b : Bat} (hm : batR.el cs b ∈ Γ) : Sat (bat (.agg cs.toArray) b :: Γ) L w := h.der hm fun I ⟨rv, e, h⟩ => ⟨rv, by rw [e], h⟩

theorem c23 (h : Sat Γ L w) {v : Value} {xs : List Bat} (hv : batR.sl v xs ∈ Γ) (n : Int) : Meets Try.prog 23 [v, vi n] w fun v' w' => ∃ m, v' = vi m ∧ Sat Γ L w' := by
  obtain ⟨A, c, rfl, hc1, hc2, _⟩ := h.slVal hv
  simp only [maxLen] at hc2
  refine spec_of Try.func23 Try.ntmps23 Try.results23 rfl (by kernel_rfl) rfl ?_
  refine ⟨[5, 6], by kernel_rfl, fun vs w' => ∃ (i : Nat) (m : Int), i ≤ xs.length ∧ vs = [vi m, vi i] ∧ Sat Γ L w', fun vs _ => match vs with | [_, .int _ i] => (xs.length - i).toNat | _ => 0, ⟨0, 0, by omega, rfl, h⟩, ?_⟩
  rintro _ w1 ⟨i, m, hi, rfl, hS⟩
  refine ⟨rfl, fun hlt => ?_, fun hlt => ?_⟩
  · have hlt : i < xs.length := by
      have h : (decide ((i : Int) < xs.length) && decide (m ≤ n)) = true := hlt
      simp at h; omega
    obtain ⟨a, b, cs, rfl, hb, hl, hcs, hS⟩ := hS.slAt hv i hlt
    have hS := hS.batOf mh
    refine ⟨a, ⟨rfl, by omega, by omega⟩, _, cs, ⟨rfl, hl, hcs⟩, ?_⟩
    refine (c72 hS mh).mono ?_
    rintro _ w2 ⟨m2, rfl, hS⟩
    refine hS.new fun b5 w2 hS => ?_
    have hS : Sat _ (.blk b5 [vi m2] 3 :: L) w2 := hS
    have hS := hS.freeze (k := 0) (p := numR.sl (.slice (some ⟨b5, 0, none⟩) 1 1) [m2]) rfl fun I E ⟨h1, h2⟩ => Rp.slOk.mk' (R := numR) (xs := [m2]) (o := 0) (cap := 1) (cells := [vi m2]) (.inr h1) h2 (by simp) (by decide) ⟨[vi m2], _, rfl, rfl, rfl⟩ fun j u hj => by simpa using hj
    refine (c31 hS mh m).mono ?_
    rintro _ w3 ⟨m', rfl, hS⟩
    have ei : IntKind.i64.wrap ((i : Int) + 1) = ((i + 1 : Nat) : Int) := w64 (by omega)
    refine ⟨⟨i + 1, m', hlt, ?_, hS.tail.tail.tail.drop⟩, ?_⟩
    · show [_, vi (IntKind.i64.wrap ((i : Int) + 1))] = _
      rw [ei]
    · show (xs.length - IntKind.i64.wrap ((i : Int) + 1)).toNat < (xs.length - (i : Int)).toNat
      rw [ei]; omega
  · exact ⟨_, rfl, hS⟩
end
end Go.Proofs.Yticgmchbihakkaa

namespace Go.Den
open Go
set_option maxRecDepth 100000

abbrev ME (κ : Type) := κ × Value × Nat
variable {κ : Type} [DecidableEq κ]
def findE (k : κ) : List (ME κ) → Nat → Option (Nat × Value)
  | [], _ => none
  | e :: es, i => if k = e.1 then some (i, e.2.1) else findE k es (i + 1)
def entsE (enc : κ → Value) (es : List (ME κ)) : List MapEntry := es.map fun e => ⟨enc e.1, e.2.1, e.2.2⟩
structure KeyT (P : Program) (kt : TypeId) (enc : κ → Value) : Prop where
  check : ∀ e k w, (Instr.checkKey e 10000 kt (enc k)).run P w = .ok () w
  find : ∀ es k w, (Instr.findKey kt (enc k) (entsE enc es)).run P w = .ok (findE k es 0) w
  same : ∀ k, Instr.sameBits 10000 (enc k) (enc k) = true

section
variable {P : Program} {kt : TypeId} {enc : κ → Value}
theorem findAsking_eq (heq : ∀ a b w, (Op.equal kt (enc a) (enc b)).run P w = .ok (decide (a = b)) w) (k : κ) (w : World) : ∀ (es : List (ME κ)) (i : Nat), (Instr.findAsking kt (enc k) (entsE enc es) i).run P w = .ok (findE k es i) w
  | [], i => by simp [entsE, Instr.findAsking, findE]
  | e :: es, i => by
    have ih := findAsking_eq heq k w es (i + 1)
    unfold entsE at ih ⊢
    simp only [List.map_cons, Instr.findAsking, Sem.run_bind, heq, Result.andThen_ok, findE]
    by_cases h : k = e.1
    · simp [h]
    · simp [h, ih]
theorem findNow_eq {d : TypeDesc} (h : ∀ a b, Instr.sameNow d (enc a) (enc b) = some (decide (a = b))) (k : κ) : ∀ (es : List (ME κ)) (i : Nat), Instr.findNow d (enc k) (entsE enc es) i = some (findE k es i)
  | [], i => by simp [entsE, Instr.findNow, findE]
  | e :: es, i => by
    have ih := findNow_eq h k es (i + 1)
    unfold entsE at ih ⊢
    simp only [List.map_cons, Instr.findNow, h, findE]
    by_cases h : k = e.1
    · simp [h]
    · simp [h, ih]
theorem find_asking {d : TypeDesc} (hd : P.underlying kt = some d) (h : ∀ a b, Instr.sameNow d (enc a) (enc b) = none) (heq : ∀ a b w, (Op.equal kt (enc a) (enc b)).run P w = .ok (decide (a = b)) w) (es : List (ME κ)) (k : κ) (w : World) : (Instr.findKey kt (enc k) (entsE enc es)).run P w = .ok (findE k es 0) w := by
  have h1 := findAsking_eq heq k w es 0
  cases es with
  | nil => simp [entsE, Instr.findKey, run_underlying hd, Result.andThen, Instr.findNow, findE]
  | cons e es =>
    have h2 : Instr.findNow d (enc k) (entsE enc (e :: es)) 0 = none := by simp [entsE, Instr.findNow, h]
    simp only [Instr.findKey, Sem.run_bind, run_underlying hd, Result.andThen_ok, h2]
    exact h1

section
variable (K : KeyT P kt enc) {mt el : TypeId} (ht : P.underlying mt = some (.map kt el)) {w : World} {b clock : Nat} {es : List (ME κ)}
include K ht
theorem run_lookupE {z : Value} (hz : (zeroValue el).run P w = .ok z w) (hb : w.heap[b]? = some (.map (entsE enc es).toArray clock)) (k : κ) (ok : Bool) :
    (Instr.lookup mt (.map (some b)) (enc k) ok).run P w = .ok (match findE k es 0 with | some (_, v) => if ok then .tuple #[v, .bool true] else v | none => if ok then .tuple #[z, .bool false] else z) w := by
  simp only [Instr.lookup, Sem.run_bind, run_underlying ht, Result.andThen_ok, Go.MapKept.run_getObj_map hb, Sem.run_pure, K.check, K.find]
  cases findE k es 0 with
  | none => simp [hz, Result.andThen]
  | some x => simp [Result.andThen]
theorem run_lookupNil {z : Value} (hz : (zeroValue el).run P w = .ok z w) (k : κ) (ok : Bool) :
    (Instr.lookup mt (.map none) (enc k) ok).run P w = .ok (if ok then .tuple #[z, .bool false] else z) w := by
  have h := K.find [] k w
  have h : (Instr.findKey kt (enc k) (#[] : Array MapEntry).toList).run P w = .ok none w := h
  simp only [Instr.lookup, Sem.run_bind, run_underlying ht, Result.andThen_ok, Sem.run_pure, K.check, h]
  simp [hz, Result.andThen]
theorem run_mapEntryNew {z : Value} (hz : (zeroValue el).run P w = .ok z w) (hb : w.heap[b]? = some (.map (entsE enc es).toArray clock)) (k : κ) (hk : findE k es 0 = none) :
    (Instr.mapEntry mt (.map (some b)) (enc k)).run P w = .ok (.tuple #[z, goInt clock]) (w.putObj b (.map (entsE enc (es ++ [(k, z, clock)])).toArray (clock + 1))) := by
  simp only [Instr.mapEntry, Sem.run_bind, run_underlying ht, Result.andThen_ok, Go.MapKept.run_getObj_map hb, Sem.run_pure, K.check, K.find, hk, hz]
  rw [Go.MapKept.run_setObj_map _ hb]
  simp only [Result.andThen_ok]
  simp [entsE, World.putObj]
end
omit [DecidableEq κ] in
theorem run_entryStoreE {mt : TypeId} {w : World} {b clock : Nat} {l1 l2 : List (ME κ)} {k : κ} {u v : Value} {n : Nat} (hb : w.heap[b]? = some (.map (entsE enc (l1 ++ (k, u, n) :: l2)).toArray clock)) (hn : ∀ e ∈ l1, e.2.2 ≠ n) :
    (Instr.entryStore mt (.map (some b)) (goInt n) v).run P w = .ok () (w.putObj b (.map (entsE enc (l1 ++ (k, v, n) :: l2)).toArray clock)) := by
  have hf : (entsE enc (l1 ++ (k, u, n) :: l2)).toArray.findIdx? (fun e => (e.born : Int) == (n : Int)) = some l1.length := by
    simp only [List.findIdx?_toArray]
    rw [List.findIdx?_eq_some_iff_getElem]
    refine ⟨by simp [entsE], by simp [entsE], fun j hj => ?_⟩
    have := hn _ (List.getElem_mem (l := l1) hj)
    simp [entsE, List.getElem_append_left, hj]
    omega
  have hi : (asInt (goInt n)).run P w = .ok (n : Int) w := rfl
  simp only [Instr.entryStore, Sem.run_bind, Go.MapKept.run_getObj_map hb, Result.andThen_ok, hi, Sem.run_pure, hf]
  rw [Go.MapKept.run_setObj_map _ hb]
  congr 1
  simp only [World.putObj]
  congr 3
  have hm : ∀ (A B : List MapEntry) (x : MapEntry) (f : MapEntry → MapEntry) (m : Nat), m = A.length → (A ++ x :: B).modify m f = A ++ f x :: B := by
    intro A
    induction A with
    | nil => intro B x f m hm; subst hm; rfl
    | cons y A ih => intro B x f m hm; subst hm; simp [ih]
  simp only [entsE, List.map_append, List.map_cons, List.modify_toArray]
  rw [hm _ _ _ _ _ (by simp)]
end
end Go.Den
namespace Go.Proofs.Yticgmchbihakkaa
open Go Go.Den
set_option maxRecDepth 100000

/-- A slot: a topic and a number. -/
abbrev Slot := ByteArray × Int
def slotE (x : Slot) : Value := .agg #[.string x.1, vi x.2]
theorem slot_eq (a b : Slot) (w : World) : (Op.equal 153 (slotE a) (slotE b)).run Try.prog w = .ok (decide (a = b)) w := by
  have u3 := Try.underlying3
  have u9 := Try.underlying9
  have hS : Try.prog.underlying 153 = some (.struct (Try.prog.fieldsOf 153)) := by kernel_rfl
  have hp : Try.prog.stoodInHeld 153 = false := by kernel_rfl
  unfold Op.equal Op.maxDepth slotE
  rw [show (10000 : Nat) = 9999 + 1 from rfl, run_equalIn_agg w 9999 153 _ _ hS hp]
  simp only [Program.fieldsOf, Try.underlying153]
  have a3 := Try.isAgg3
  have a9 := Try.isAgg9
  have z3 := Try.sizeOf3
  have z9 := Try.sizeOf9
  go_simp
  obtain ⟨s, m⟩ := a
  obtain ⟨t, n⟩ := b
  have hb := Go.MapKept.bytes_beq s t
  rw [beq_toListBytes] at hb
  by_cases h1 : s = t
  · by_cases h2 : m = n <;> simp [h1, h2]
  · have h3 : ¬ s.toList = t.toList := fun h => h1 (hb.1 (by simp [h]))
    simp [h1, h3]
theorem slotK : KeyT Try.prog 153 slotE where
  check e k w := by
    have u3 := Try.underlying3
    have u9 := Try.underlying9
    have a3 := Try.isAgg3
    have a9 := Try.isAgg9
    have z3 := Try.sizeOf3
    have z9 := Try.sizeOf9
    obtain ⟨s, n⟩ := k
    rw [show (10000 : Nat) = 9998 + 1 + 1 from rfl, Instr.checkKey]
    simp only [slotE, Sem.run_bind, run_underlying Try.underlying153, Result.andThen_ok]
    go_simp
    have c9 := fun w => Go.MapKept.run_checkKey (w := w) (k := .string s) u9 trivial e 9998
    have c3 := fun w => Go.MapKept.run_checkKey (w := w) (k := vi n) u3 rfl e 9998
    simp [c9, c3]
  find es k w := find_asking Try.underlying153 (fun _ _ => rfl) slot_eq es k w
  same k := by
    obtain ⟨s, n⟩ := k
    have : (s == s) = true := (Go.MapKept.bytes_beq s s).2 rfl
    simp [slotE, Instr.sameBits, this]
end Go.Proofs.Yticgmchbihakkaa

namespace Go.Proofs.Yticgmchbihakkaa
open Go Go.Den
set_option maxRecDepth 100000

abbrev slotO (es : List (ME Slot)) (clock : Nat) : Obj := .map (entsE slotE es).toArray clock
/-- A Producer's cells. -/
abbrev pdC (id epoch corr : Int) (m : Nat) (under : Value) (count : Int) : List Value := [vi id, vi epoch, vi corr, .map (some m), under, vi count]
def slotN (es : List (ME Slot)) (k : Slot) : Value := match findE k es 0 with
  | some (_, v) => v
  | none => vi 0

section
variable {Γ : List PP} {L : List HP} {w : World}

theorem _root_.Go.Den.Sat.mkMap (h : Sat Γ L w) {t : TypeId} {K : Value → World → Prop} (hK : ∀ b w1, Sat Γ (.obj b (.map #[] 0) :: L) w1 → K (.map (some b)) w1) : runD Try.prog (Instr.makeMap t none) w K := by
  have hr : (Instr.makeMap t none).run Try.prog w = .ok (.map (some w.heap.size)) (w.alloc (.map #[] 0)) := by
    simp [Instr.makeMap, Result.andThen]
  exact ⟨_, _, hr, hK _ _ (h.newO _ rfl rfl)⟩
theorem _root_.Go.Den.Sat.stA (h : Sat Γ L w) {k b t i : Nat} {cs : List Value} {v : Value} {a : Addr} {K : World → Prop} (hk : L[k]? = some (.blk b cs t)) (ha : a = ⟨b, i, none⟩) (hi : i < cs.length) (hv : v.oneCell' = true)
    (hK : ∀ w1, Sat Γ (L.set k (.blk b (cs.set i v) t)) w1 → K w1) : wrAt w a 0 [v] ∧ ∀ w1, w1 = setCells w a 0 [v] → K w1 := by
  subst ha; exact h.st hk hi hv hK

theorem c69 (h : Sat Γ L w) : Meets Try.prog 69 [vi 1, vi 0] w fun v' w' => ∃ a m, v' = .tuple #[ptr a, vi 0] ∧ Sat Γ (.blk a (pdC 1 0 0 m nilP 0) 146 :: .obj m (slotO [] 0) :: L) w' := by
  refine spec_of Try.func69 Try.ntmps69 Try.results69 rfl (by kernel_rfl) rfl ?_
  refine ⟨fun hc => (by cases hc), fun _ => ?_⟩
  refine h.mkMap fun m w1 hS => ?_
  refine hS.new fun a w1 hS => ?_
  exact ⟨a, m, rfl, hS⟩
theorem c69bad (w : World) : Meets Try.prog 69 [vi 0, vi 0] w fun v' w' => v' = .tuple #[nilP, vi 1] ∧ w' = w := by
  refine spec_of Try.func69 Try.ntmps69 Try.results69 rfl (by kernel_rfl) rfl ?_
  exact ⟨fun _ => ⟨rfl, rfl⟩, fun hc => (by cases hc)⟩
theorem c79 (w : World) (e : Int) : Meets Try.prog 79 [vi e] w fun v' w' => v' = .bool (decide (e = 7) || decide (e = 15) || decide (e = 4)) ∧ w' = w := by
  refine spec_of Try.func79 Try.ntmps79 Try.results79 rfl (by kernel_rfl) rfl ?_
  exact ⟨rfl, rfl⟩
theorem c29 (h : Sat Γ L w) {k j a m : Nat} {id epoch corr count : Int} {under : Value} {es : List (ME Slot)} {clock : Nat} (hk : L[k]? = some (.blk a (pdC id epoch corr m under count) 146)) (hj : L[j]? = some (.obj m (slotO es clock))) (t : ByteArray) (part : Int) :
    Meets Try.prog 29 [ptr a, .string t, vi part] w fun v' w' => v' = slotN es (t, part) ∧ w' = w := by
  refine spec_of Try.func29 Try.ntmps29 Try.results29 rfl (by kernel_rfl) rfl ?_
  refine ⟨fun h => (by cases h), fun _ => ?_⟩
  refine ⟨_, rfl, _, rfl, _, .map (some m), ⟨rfl, h.ld (k := k) hk rfl⟩, ?_⟩
  refine ⟨_, _, run_lookupE slotK Try.underlying143 (Try.zeroValue3 _) (h.obj hj) (t, part) false, ?_⟩
  refine ⟨?_, rfl⟩
  unfold slotN
  cases findE (t, part) es 0 <;> rfl
theorem c29nil (w : World) (t : ByteArray) (part : Int) : Meets Try.prog 29 [nilP, .string t, vi part] w fun v' w' => v' = vi 0 ∧ w' = w := by
  refine spec_of Try.func29 Try.ntmps29 Try.results29 rfl (by kernel_rfl) rfl ?_
  exact ⟨fun _ => ⟨rfl, rfl⟩, fun hc => (by cases hc)⟩
abbrev rq0 : List Value := rqC 0 0 ⟨#[]⟩ 0 0 0 nilS
theorem c27nil (h : Sat Γ L w) : Meets Try.prog 27 [nilP] w fun v' w' => v' = .tuple #[.agg rq0.toArray, .bool false] ∧ Sat Γ L w' := by
  refine spec_of Try.func27 Try.ntmps27 Try.results27 rfl (by kernel_rfl) rfl ?_
  refine h.new fun b2 w1 hS => ?_
  have hS : Sat Γ (.blk b2 rq0 42 :: L) w1 := hS
  refine ⟨⟨0, 0, none⟩, fun h => (by cases h), ⟨0, 0, none⟩, fun h => (by cases h), ⟨0, 0, none⟩, nilP, fun h => (by cases h), ?_⟩
  refine ⟨fun _ => ?_, fun h => (by cases h)⟩
  refine hS.stAll (vs := rq0) (k := 0) rfl rfl (one_of rfl) fun w3 hS => ?_
  exact ⟨_, ⟨rfl, hS.ldAll (k := 0) rfl⟩, rfl, hS.drop⟩
theorem c25nil (h : Sat Γ L w) (t : ByteArray) (part : Int) (v : Value) : Meets Try.prog 25 [nilP, .string t, vi part, v] w fun v' w' => v' = .tuple #[.agg rq0.toArray, vi 1] ∧ Sat Γ L w' := by
  refine spec_of Try.func25 Try.ntmps25 Try.results25 rfl (by kernel_rfl) rfl ?_
  refine h.new fun b8 w1 hS => ?_
  have hS : Sat Γ (.blk b8 rq0 42 :: L) w1 := hS
  refine ⟨fun _ => ?_, fun h => (by cases h)⟩
  refine ⟨_, _, ⟨rfl, rfl, hS.ldAll (k := 0) rfl⟩, ?_⟩
  refine hS.stAll (vs := rq0) (k := 0) rfl rfl (one_of rfl) fun w3 hS => ?_
  exact ⟨_, ⟨rfl, hS.ldAll (k := 0) rfl⟩, rfl, hS.drop⟩
theorem c28nil (h : Sat Γ L w) {xc code xo xl xg : Int} {mem lead : ByteArray} {names nums dv : Value} (hn : names.oneCell' = true) (hu : nums.oneCell' = true) (hd : dv.oneCell' = true) :
    Meets Try.prog 28 [nilP, .agg (rspC xc code xo xl xg mem lead names nums dv).toArray] w fun v' w' => v' = .tuple #[vi 0, vi 1] ∧ Sat Γ L w' := by
  refine spec_of Try.func28 Try.ntmps28 Try.results28 rfl (by kernel_rfl) rfl ?_
  refine h.new fun b3 w1 hS => ?_
  have hS : Sat Γ (.blk b3 (rspC xc code xo xl xg mem lead names nums dv) 52 :: L) w1 := hS
  refine ⟨_, rfl, _, _, ⟨rfl, cell_of (hS.blk (k := 0) rfl) rfl⟩, ?_⟩
  refine ⟨fun _ => ?_, fun h => (by cases h)⟩
  exact ⟨rfl, hS.drop⟩
theorem c113 (h : Sat Γ L w) {v : Value} {xs : Bytes} (hv : byt v xs ∈ Γ) (hl : xs.length ≤ 100000000000) : Meets Try.prog 113 [v] w fun v' w' => Sat (byt v' xs :: Γ) L w' := by
  obtain ⟨G, h1⟩ := h.byt hv
  refine (f113 w v G xs h1 hl).mono ?_
  rintro v' w' ⟨G', g1, g2, g3, _⟩
  exact h.newp g2 fun I => ⟨G', g1, fun b hb => .inr (g3 b hb)⟩
theorem c77 (h : Sat Γ L w) {a b : Int} {t : ByteArray} {part off most : Int} {v : Value} {p : Bytes} (hv : byt v p ∈ Γ) (hl : p.length ≤ 100000000000) : Meets Try.prog 77 [.agg (rqC a b t part off most v).toArray] w fun v' w' => ∃ u, v' = .agg (rqC a b t part off most u).toArray ∧ Sat (byt u p :: Γ) L w' := by
  obtain ⟨A, cp, rfl, hc1, hc2⟩ := h.bytVal hv
  refine spec_of Try.func77 Try.ntmps77 Try.results77 rfl (by kernel_rfl) rfl ?_
  refine h.new fun b1 w1 hS => ?_
  have hS : Sat Γ (.blk b1 (rqC a b t part off most (.slice A p.length cp)) 42 :: L) w1 := hS
  refine hS.new fun b2 w2 hS => ?_
  have hS : Sat Γ (.blk b2 rq0 42 :: .blk b1 (rqC a b t part off most (.slice A p.length cp)) 42 :: L) w2 := hS
  refine ⟨_, rfl, _, _, ⟨rfl, cell_of (hS.blk (k := 1) rfl) rfl⟩, ?_⟩
  refine (c113 hS hv hl).mono ?_
  rintro u w3 hS
  obtain ⟨U, cu, rfl, _⟩ := hS.bytVal mh
  refine ⟨_, rfl, hS.st (k := 1) (i := 12) rfl (by simp) rfl fun w4 hS => ?_⟩
  have hS : Sat _ (.blk b2 rq0 42 :: .blk b1 (rqC a b t part off most (.slice U p.length cu)) 42 :: L) w4 := hS
  refine ⟨_, _, ⟨rfl, rfl, hS.ldAll (k := 1) rfl⟩, ?_⟩
  refine hS.stAll (vs := rqC a b t part off most (.slice U p.length cu)) (k := 0) rfl rfl (one_of rfl) fun w3 hS => ?_
  exact ⟨_, ⟨rfl, hS.ldAll (k := 0) rfl⟩, _, rfl, hS.drop.drop⟩
def roundI (k n : Int) : Int := if Int.tmod k n < 0 then IntKind.i64.wrap (Int.tmod k n + n) else Int.tmod k n
theorem c60 (w : World) (k n : Int) (hn : n ≠ 0) : Meets Try.prog 60 [vi k, vi n] w fun v' w' => v' = vi (roundI k n) ∧ w' = w := by
  refine spec_of Try.func60 Try.ntmps60 Try.results60 rfl (by kernel_rfl) rfl ?_
  refine ⟨hn, ?_⟩
  unfold roundI
  refine ⟨fun hc => ?_, fun hc => ?_⟩
  · have hc : decide (Int.tmod k n < 0) = true := hc
    rw [if_pos (of_decide_eq_true hc)]
    exact ⟨rfl, rfl⟩
  · have hc : decide (Int.tmod k n < 0) = false := hc
    rw [if_neg (of_decide_eq_false hc)]
    exact ⟨rfl, rfl⟩
def blkX (n : Int) (i : Nat) : Int := IntKind.u8.wrap (IntKind.u8.wrap n + IntKind.u8.wrap (IntKind.u8.wrap (i : Int) * 7))
def blkB (size : Nat) (n : Int) : Bytes := (List.range size).map fun i => UInt8.ofNat (blkX n i).toNat
theorem c129 (h : Sat Γ L w) (size : Nat) (hs : size ≤ 1000) (n : Int) : Meets Try.prog 129 [vi size, vi n] w fun v' w' => Sat (byt v' (blkB size n) :: Γ) L w' := by
  refine spec_of Try.func129 Try.ntmps129 Try.results129 rfl (by kernel_rfl) rfl ?_
  obtain ⟨i, hi, hz, hs, hby⟩ := info_parts byteTy.info
  have hr := run_makeSlice (P := Try.prog) w 22 5 i (.int .u8 0) Try.underlying22 hi hz .i64 .i64 size size (by omega) (by omega) (by rw [hs]; simp; omega) (by rw [hby]; omega) (by omega)
  rw [hs, Int.toNat_natCast] at hr
  refine ⟨_, _, hr, ?_⟩
  generalize hw0 : w.alloc _ = w0
  have hS := h.newO _ rfl hw0.symm
  have hcs : (madeCells (Value.int IntKind.u8 0).cells (size * 1)) = (bvs (List.replicate size 0)).toArray := by
    apply Array.ext'
    apply List.ext_getElem?
    intro j
    simp only [madeCells, bvs, Nat.mul_one]
    by_cases hj : j < size
    · simp [hj, bv]
      show (#[(Value.int .u8 0)] : Array Value)[j % 1]! = _
      rw [Nat.mod_one]; rfl
    · simp [hj]
  rw [hcs] at hS
  have hS : Sat Γ (.blk w.heap.size (bvs (List.replicate size 0)) 5 :: L) w0 := hS
  generalize w.heap.size = b at *
  refine ⟨[6], by kernel_rfl, fun vs w1 => ∃ (j : Nat) (ys : Bytes), j ≤ size ∧ vs = [vi j] ∧ ys.length = size ∧ (∀ i, i < j → ys[i]? = (blkB size n)[i]?) ∧ Sat Γ (.blk b (bvs ys) 5 :: L) w1, fun vs _ => match vs with | [.int _ j] => (size - j).toNat | _ => 0, ⟨0, List.replicate size 0, by omega, rfl, by simp, fun i hi => by omega, hS⟩, ?_⟩
  rintro _ w1 ⟨j, ys, hj, rfl, hl, hy, hS⟩
  refine ⟨rfl, fun hlt => ?_, fun hlt => ?_⟩
  · have hlt : j < size := by
      have h : decide ((j : Int) < size) = true := hlt
      have := of_decide_eq_true h; omega
    have ei : IntKind.i64.wrap ((j : Int) + 1) = ((j + 1 : Nat) : Int) := w64 (by omega)
    have hX : ∃ x : UInt8, bv x = .int .u8 (blkX n j) ∧ (blkB size n)[j]? = some x := by
      refine ⟨UInt8.ofNat (blkX n j).toNat, ?_, by simp [blkB, hlt]⟩
      unfold bv
      have h1 : 0 ≤ blkX n j ∧ blkX n j < 256 := by unfold blkX; rw [wu8]; omega
      congr 1
      rw [UInt8.toNat_ofNat']
      omega
    obtain ⟨x, hx1, hx2⟩ := hX
    refine ⟨⟨b, 0, none⟩, ⟨rfl, by omega, by omega⟩, ?_⟩
    refine hS.stA (k := 0) (i := j) (v := .int .u8 (blkX n j)) rfl ?_ (by simp [bvs, hl, hlt]) rfl fun w2 hS => ?_
    · show (Addr.mk b 0 none).add ((j : Int).toNat * 1) = _
      rw [add_mk]; simp
    · rw [← hx1] at hS
      have he : (bvs ys).set j (bv x) = bvs (ys.set j x) := by simp [bvs, List.map_set]
      have hS : Sat Γ (.blk b ((bvs ys).set j (bv x)) 5 :: L) w2 := hS
      rw [he] at hS
      refine ⟨⟨j + 1, ys.set j x, hlt, ?_, by simp [hl], fun i hi => ?_, hS⟩, ?_⟩
      · show [vi (IntKind.i64.wrap ((j : Int) + 1))] = _
        rw [ei]
      · rw [List.getElem?_set]
        by_cases h : j = i
        · subst h; rw [if_pos rfl, if_pos (by omega), hx2]
        · rw [if_neg h]; exact hy i (by omega)
      · show (size - IntKind.i64.wrap ((j : Int) + 1)).toNat < (size - (j : Int)).toNat
        rw [ei]; omega
  · have hlt : ¬ j < size := by
      have h : decide ((j : Int) < size) = false := hlt
      have := of_decide_eq_false h; omega
    have he : ys = blkB size n := by
      apply List.ext_getElem?
      intro i
      by_cases hi : i < j
      · exact hy i hi
      · have : (blkB size n).length = size := by simp [blkB]
        rw [List.getElem?_eq_none (by omega), List.getElem?_eq_none (by omega)]
    subst he
    have hl2 : (blkB size n).length = size := by simp [blkB]
    have := hS.freeze (k := 0) (p := byt (.slice (some ⟨b, 0, none⟩) (blkB size n).length size) (blkB size n)) rfl fun I E ⟨h1, h2⟩ => ⟨some b, IsB.mk' (xs := blkB size n) h2 (by omega) (by simp [maxLen]; omega) (fun j x hj => by simp [bvs, hj]), fun b hb => by cases hb; exact .inr h1⟩
    rw [hl2] at this
    exact this.drop
end
end Go.Proofs.Yticgmchbihakkaa

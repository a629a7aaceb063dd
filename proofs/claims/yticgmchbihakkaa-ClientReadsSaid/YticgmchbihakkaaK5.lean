/- Maps: what the machine does at one whose keys are told apart by a type's own equality. -/
import Derived.Test.YticgmchbihakkaaK4
import Derived.MapKept
import Derived.Laws.StructEq
import Derived.Tactics
import Derived.Tactics2
set_option linter.unusedVariables false
set_option linter.unusedSimpArgs false
namespace Go.Den
open Go
set_option maxRecDepth 100000

abbrev ME (κ : Type) := κ × Value × Nat
variable {κ : Type} [DecidableEq κ]
def findE (k : κ) : List (ME κ) → Nat → Option (Nat × Value)
  | [], _ => none
  | e :: es, i => if k = e.1 then some (i, e.2.1) else findE k es (i + 1)
def entsE (enc : κ → Value) (es : List (ME κ)) : List MapEntry := es.map fun e => ⟨enc e.1, e.2.1, e.2.2⟩
structure KeyT (P : Program) (kt : TypeId) (enc : κ → Value) : Prop where
  check : ∀ e k w, (Instr.checkKey e 10000 kt (enc k)).run P w = .ok () w
  find : ∀ es k w, (Instr.findKey kt (enc k) (entsE enc es)).run P w = .ok (findE k es 0) w
  same : ∀ k, Instr.sameBits 10000 (enc k) (enc k) = true

section
variable {P : Program} {kt : TypeId} {enc : κ → Value}
theorem findAsking_eq (heq : ∀ a b w, (Op.equal kt (enc a) (enc b)).run P w = .ok (decide (a = b)) w) (k : κ) (w : World) : ∀ (es : List (ME κ)) (i : Nat), (Instr.findAsking kt (enc k) (entsE enc es) i).run P w = .ok (findE k es i) w
  | [], i => by simp [entsE, Instr.findAsking, findE]
  | e :: es, i => by
    have ih := findAsking_eq heq k w es (i + 1)
    unfold entsE at ih ⊢
    simp only [List.map_cons, Instr.findAsking, Sem.run_bind, heq, Result.andThen_ok, findE]
    by_cases h : k = e.1
    · simp [h]
    · simp [h, ih]
theorem findNow_eq {d : TypeDesc} (h : ∀ a b, Instr.sameNow d (enc a) (enc b) = some (decide (a = b))) (k : κ) : ∀ (es : List (ME κ)) (i : Nat), Instr.findNow d (enc k) (entsE enc es) i = some (findE k es i)
  | [], i => by simp [entsE, Instr.findNow, findE]
  | e :: es, i => by
    have ih := findNow_eq h k es (i + 1)
    unfold entsE at ih ⊢
    simp only [List.map_cons, Instr.findNow, h, findE]
    by_cases h : k = e.1
    · simp [h]
    · simp [h, ih]
theorem find_asking {d : TypeDesc} (hd : P.underlying kt = some d) (h : ∀ a b, Instr.sameNow d (enc a) (enc b) = none) (heq : ∀ a b w, (Op.equal kt (enc a) (enc b)).run P w = .ok (decide (a = b)) w) (es : List (ME κ)) (k : κ) (w : World) : (Instr.findKey kt (enc k) (entsE enc es)).run P w = .ok (findE k es 0) w := by
  have h1 := findAsking_eq heq k w es 0
  cases es with
  | nil => simp [entsE, Instr.findKey, run_underlying hd, Result.andThen, Instr.findNow, findE]
  | cons e es =>
    have h2 : Instr.findNow d (enc k) (entsE enc (e :: es)) 0 = none := by simp [entsE, Instr.findNow, h]
    simp only [Instr.findKey, Sem.run_bind, run_underlying hd, Result.andThen_ok, h2]
    exact h1

section
variable (K : KeyT P kt enc) {mt el : TypeId} (ht : P.underlying mt = some (.map kt el)) {w : World} {b clock : Nat} {es : List (ME κ)}
include K ht
theorem run_lookupE {z : Value} (hz : (zeroValue el).run P w = .ok z w) (hb : w.heap[b]? = some (.map (entsE enc es).toArray clock)) (k : κ) (ok : Bool) :
    (Instr.lookup mt (.map (some b)) (enc k) ok).run P w = .ok (match findE k es 0 with | some (_, v) => if ok then .tuple #[v, .bool true] else v | none => if ok then .tuple #[z, .bool false] else z) w := by
  simp only [Instr.lookup, Sem.run_bind, run_underlying ht, Result.andThen_ok, Go.MapKept.run_getObj_map hb, Sem.run_pure, K.check, K.find]
  cases findE k es 0 with
  | none => simp [hz, Result.andThen]
  | some x => simp [Result.andThen]
theorem run_lookupNil {z : Value} (hz : (zeroValue el).run P w = .ok z w) (k : κ) (ok : Bool) :
    (Instr.lookup mt (.map none) (enc k) ok).run P w = .ok (if ok then .tuple #[z, .bool false] else z) w := by
  have h := K.find [] k w
  have h : (Instr.findKey kt (enc k) (#[] : Array MapEntry).toList).run P w = .ok none w := h
  simp only [Instr.lookup, Sem.run_bind, run_underlying ht, Result.andThen_ok, Sem.run_pure, K.check, h]
  simp [hz, Result.andThen]
theorem run_mapEntryNew {z : Value} (hz : (zeroValue el).run P w = .ok z w) (hb : w.heap[b]? = some (.map (entsE enc es).toArray clock)) (k : κ) (hk : findE k es 0 = none) :
    (Instr.mapEntry mt (.map (some b)) (enc k)).run P w = .ok (.tuple #[z, goInt clock]) (w.putObj b (.map (entsE enc (es ++ [(k, z, clock)])).toArray (clock + 1))) := by
  simp only [Instr.mapEntry, Sem.run_bind, run_underlying ht, Result.andThen_ok, Go.MapKept.run_getObj_map hb, Sem.run_pure, K.check, K.find, hk, hz]
  rw [Go.MapKept.run_setObj_map _ hb]
  simp only [Result.andThen_ok]
  simp [entsE, World.putObj]
end
omit [DecidableEq κ] in
theorem run_entryStoreE {mt : TypeId} {w : World} {b clock : Nat} {l1 l2 : List (ME κ)} {k : κ} {u v : Value} {n : Nat} (hb : w.heap[b]? = some (.map (entsE enc (l1 ++ (k, u, n) :: l2)).toArray clock)) (hn : ∀ e ∈ l1, e.2.2 ≠ n) :
    (Instr.entryStore mt (.map (some b)) (goInt n) v).run P w = .ok () (w.putObj b (.map (entsE enc (l1 ++ (k, v, n) :: l2)).toArray clock)) := by
  have hf : (entsE enc (l1 ++ (k, u, n) :: l2)).toArray.findIdx? (fun e => (e.born : Int) == (n : Int)) = some l1.length := by
    simp only [List.findIdx?_toArray]
    rw [List.findIdx?_eq_some_iff_getElem]
    refine ⟨by simp [entsE], by simp [entsE], fun j hj => ?_⟩
    have := hn _ (List.getElem_mem (l := l1) hj)
    simp [entsE, List.getElem_append_left, hj]
    omega
  have hi : (asInt (goInt n)).run P w = .ok (n : Int) w := rfl
  simp only [Instr.entryStore, Sem.run_bind, Go.MapKept.run_getObj_map hb, Result.andThen_ok, hi, Sem.run_pure, hf]
  rw [Go.MapKept.run_setObj_map _ hb]
  congr 1
  simp only [World.putObj]
  congr 3
  have hm : ∀ (A B : List MapEntry) (x : MapEntry) (f : MapEntry → MapEntry) (m : Nat), m = A.length → (A ++ x :: B).modify m f = A ++ f x :: B := by
    intro A
    induction A with
    | nil => intro B x f m hm; subst hm; rfl
    | cons y A ih => intro B x f m hm; subst hm; simp [ih]
  simp only [entsE, List.map_append, List.map_cons, List.modify_toArray]
  rw [hm _ _ _ _ _ (by simp)]
end
end Go.Den
namespace Go.Proofs.Yticgmchbihakkaa
open Go Go.Den
set_option maxRecDepth 100000

/-- A slot: a topic and a number. -/
abbrev Slot := ByteArray × Int
def slotE (x : Slot) : Value := .agg #[.string x.1, vi x.2]
theorem slot_eq (a b : Slot) (w : World) : (Op.equal 153 (slotE a) (slotE b)).run Try.prog w = .ok (decide (a = b)) w := by
  have u3 := Try.underlying3
  have u9 := Try.underlying9
  have hS : Try.prog.underlying 153 = some (.struct (Try.prog.fieldsOf 153)) := by kernel_rfl
  have hp : Try.prog.stoodInHeld 153 = false := by kernel_rfl
  unfold Op.equal Op.maxDepth slotE
  rw [show (10000 : Nat) = 9999 + 1 from rfl, run_equalIn_agg w 9999 153 _ _ hS hp]
  simp only [Program.fieldsOf, Try.underlying153]
  have a3 := Try.isAgg3
  have a9 := Try.isAgg9
  have z3 := Try.sizeOf3
  have z9 := Try.sizeOf9
  go_simp
  obtain ⟨s, m⟩ := a
  obtain ⟨t, n⟩ := b
  have hb := Go.MapKept.bytes_beq s t
  rw [beq_toListBytes] at hb
  by_cases h1 : s = t
  · by_cases h2 : m = n <;> simp [h1, h2]
  · have h3 : ¬ s.toList = t.toList := fun h => h1 (hb.1 (by simp [h]))
    simp [h1, h3]
theorem slotK : KeyT Try.prog 153 slotE where
  check e k w := by
    have u3 := Try.underlying3
    have u9 := Try.underlying9
    have a3 := Try.isAgg3
    have a9 := Try.isAgg9
    have z3 := Try.sizeOf3
    have z9 := Try.sizeOf9
    obtain ⟨s, n⟩ := k
    rw [show (10000 : Nat) = 9998 + 1 + 1 from rfl, Instr.checkKey]
    simp only [slotE, Sem.run_bind, run_underlying Try.underlying153, Result.andThen_ok]
    go_simp
    have c9 := fun w => Go.MapKept.run_checkKey (w := w) (k := .string s) u9 trivial e 9998
    have c3 := fun w => Go.MapKept.run_checkKey (w := w) (k := vi n) u3 rfl e 9998
    simp [c9, c3]
  find es k w := find_asking Try.underlying153 (fun _ _ => rfl) slot_eq es k w
  same k := by
    obtain ⟨s, n⟩ := k
    have : (s == s) = true := (Go.MapKept.bytes_beq s s).2 rfl
    simp [slotE, Instr.sameBits, this]
end Go.Proofs.Yticgmchbihakkaa

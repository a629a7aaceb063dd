/- The engine, part 1: a function 'den' that turns a loaded Go function's code into the obligations of a proof (its weakest precondition), pure operations computed. -/
import Derived.CallsIn
import Derived.RangeFuncIn
import Derived.RangeFuncLeaves
import Derived.RangeFuncRecord
import Derived.Below
import Derived.OrdersIn
import Derived.OrdersHeld
import Derived.Laws.Entries
import Derived.Laws.Cells
import Derived.Laws.Slices
import Derived.Laws.Strings
import Derived.KernelRfl
set_option linter.unusedVariables false
set_option linter.unusedSimpArgs false
namespace Go.Den
open Go

/-- What the engine wants to know of a type. -/
inductive TK where
  | int (k : IntKind) | bool | str | ptr | slice (e esz : Nat) | map | func | iface
  | agg (fs : List (Nat × Nat))
  | bad

structure TI where
  k : TK
  size : Nat
  zero : List Value

def TI.of (P : Program) (t : Nat) : TI :=
  let size := P.cellsOf t
  let zero := match (P.info? t).bind (·.zero) with | some z => z.cells.toList | none => []
  match P.underlying t with
  | some (.int k) => ⟨.int k, size, zero⟩
  | some .bool => ⟨.bool, size, zero⟩
  | some .string => ⟨.str, size, zero⟩
  | some (.pointer _) => ⟨.ptr, size, zero⟩
  | some (.slice e) => bif Nat.beq (P.cellsOf e) 0 then ⟨.bad, 0, []⟩ else ⟨.slice e (P.cellsOf e), size, zero⟩
  | some (.map _ _) => ⟨.map, size, zero⟩
  | some (.func _ _ _) => ⟨.func, size, zero⟩
  | some (.interface _) => ⟨.iface, size, zero⟩
  | some (.struct fs) => bif fs.toList.all (fun f => !Nat.beq (P.cellsOf f.type) 0) then ⟨.agg (fs.toList.map fun f => (f.offset, P.cellsOf f.type)), size, zero⟩ else ⟨.bad, 0, []⟩
  | _ => ⟨.bad, 0, []⟩

abbrev Slots := List (Nat × Option Value)

def look : Slots → Nat → Option Value
  | [], _ => none
  | (d, v) :: l, t => bif Nat.beq d t then v else look l t

structure Env where
  ρ : Slots
  m : List Nat := []

/-- Operands, in a frame given by slots. -/
def evalIn (f : Nat → Option Value) : Operand → Option Value
  | .tmp t => f t
  | .const v => some v
  | .global g => some (.pointer (some ⟨g, 0, none⟩))
  | .func f => some (.func (.func f) #[] #[])

def need {α : Type} (x : Option α) (K : α → Prop) : Prop :=
  match x with
  | some v => K v
  | none => False

def needPtr (a : Option Addr) (K : Addr → Prop) : Prop :=
  match a with
  | some p => K p
  | none => False

/-- Under conditions. -/
def under : List (Bool × Bool) → Prop → Prop
  | [], p => p
  | (e, b) :: l, p => under l (e = b → p)

def conds : List (Bool × Bool) → Prop
  | [] => True
  | (e, b) :: l => e = b ∧ conds l

theorem under_elim {l : List (Bool × Bool)} {p : Prop} (h : under l p) (hc : conds l) : p := by
  induction l generalizing p with
  | nil => exact h
  | cons x l ih => obtain ⟨e, b⟩ := x; exact (ih h hc.2) hc.1

def needs (f : Operand → Option Value) : List Operand → Option (List Value)
  | [] => some []
  | x :: l => match f x, needs f l with
    | some v, some vs => some (v :: vs)
    | _, _ => none

def cellsAt (w : World) (a : Addr) : Nat → List Value → Prop
  | _, [] => True
  | i, v :: vs => w.cell? (a.add i) = some v ∧ cellsAt w a (i + 1) vs

/-- The world behind stores of cells. -/
def setCells (w : World) (a : Addr) : Nat → List Value → World
  | _, [] => w
  | i, v :: vs => setCells (w.setCell (a.add i) v) a (i + 1) vs

/-- Cells that can be written. -/
def wrAt (w : World) (a : Addr) : Nat → List Value → Prop
  | _, [] => True
  | i, v :: vs => ((∃ u, w.cell? (a.add i) = some u) ∧ w.frozen? (a.add i) = false ∧ v.oneCell' = true) ∧ wrAt (w.setCell (a.add i) v) a (i + 1) vs

def shlI (k : IntKind) (x y : Int) : Int := k.wrap (x * 2 ^ (min y.toNat k.bits))
def shrI (k : IntKind) (x y : Int) : Int := x.fdiv (2 ^ (min y.toNat k.bits))
def bitI (op : BinOp) (k : IntKind) (x y : Int) : Int :=
  match op with
  | .and => k.wrap (BitVec.ofInt k.bits x &&& BitVec.ofInt k.bits y).toNat
  | .or => k.wrap (BitVec.ofInt k.bits x ||| BitVec.ofInt k.bits y).toNat
  | .xor => k.wrap (BitVec.ofInt k.bits x ^^^ BitVec.ofInt k.bits y).toNat
  | _ => k.wrap (BitVec.ofInt k.bits x &&& ~~~BitVec.ofInt k.bits y).toNat

def kindEq : IntKind → IntKind → Bool
  | .i8, .i8 | .i16, .i16 | .i32, .i32 | .i64, .i64 | .u8, .u8 | .u16, .u16 | .u32, .u32 | .u64, .u64 => true
  | _, _ => false

/-- Binary operations on whole numbers. -/
def intD (c : List (Bool × Bool)) (op : BinOp) (k : IntKind) (x y : Int) (K : Value → Prop) : Prop :=
  match op with
  | .add => K (.int k (k.wrap (x + y)))
  | .sub => K (.int k (k.wrap (x - y)))
  | .mul => K (.int k (k.wrap (x * y)))
  | .quo => under c (y ≠ 0) ∧ K (.int k (k.wrap (x.tdiv y)))
  | .rem => under c (y ≠ 0) ∧ K (.int k (x.tmod y))
  | .and => K (.int k (bitI .and k x y))
  | .or => K (.int k (bitI .or k x y))
  | .xor => K (.int k (bitI .xor k x y))
  | .andNot => K (.int k (bitI .andNot k x y))
  | .eql => K (.bool (decide (x = y)))
  | .neq => K (.bool (!decide (x = y)))
  | .lss => K (.bool (decide (x < y)))
  | .leq => K (.bool (decide (x ≤ y)))
  | .gtr => K (.bool (decide (y < x)))
  | .geq => K (.bool (decide (y ≤ x)))
  | .shl | .shr => False

def strD (op : BinOp) (x y : ByteArray) (c : List (Bool × Bool)) (K : Value → Prop) : Prop :=
  match op with
  | .add => under c (((x.size + y.size : Nat) : Int) ≤ 9223372036854775807) ∧ K (.string (x ++ y))
  | .eql => K (.bool (decide (x = y)))
  | .neq => K (.bool (!decide (x = y)))
  | .lss => K (.bool (Op.bytesLess x.toList y.toList))
  | .leq => K (.bool (Op.bytesLess x.toList y.toList || decide (x = y)))
  | .gtr => K (.bool !(Op.bytesLess x.toList y.toList || decide (x = y)))
  | .geq => K (.bool !(Op.bytesLess x.toList y.toList))
  | _ => False

def eqD (neg : Bool) (b : Bool) : Value := .bool (bif neg then !b else b)

/-- '==' and '!=' against nil, and of bools. -/
def eqlD (T : TI) (neg : Bool) (x y : Value) (K : Value → Prop) : Prop :=
  match T.k, x, y with
  | .bool, .bool a, .bool b => K (eqD neg (a == b))
  | .ptr, .pointer none, .pointer b => K (eqD neg b.isNone)
  | .ptr, .pointer a, .pointer none => K (eqD neg a.isNone)
  | .slice _ _, .slice none _ _, .slice b _ _ => K (eqD neg b.isNone)
  | .slice _ _, .slice a _ _, .slice none _ _ => K (eqD neg a.isNone)
  | .map, .map none, .map b => K (eqD neg b.isNone)
  | .map, .map a, .map none => K (eqD neg a.isNone)
  | .func, .nilFunc, .nilFunc => K (eqD neg true)
  | .func, .nilFunc, .func _ _ _ => K (eqD neg false)
  | .func, .func _ _ _, .nilFunc => K (eqD neg false)
  | _, _, _ => False

def binD (T : TI) (c : List (Bool × Bool)) (op : BinOp) (x y : Value) (K : Value → Prop) : Prop :=
  match x, y with
  | .int k a, .int k' b =>
    match op with
    | .shl => under c (0 ≤ b) ∧ K (.int k (shlI k a b))
    | .shr => under c (0 ≤ b) ∧ K (.int k (shrI k a b))
    | op => bif kindEq k k' then intD c op k a b K else False
  | .string a, .string b => strD op a b c K
  | x, y =>
    match op with
    | .eql => eqlD T false x y K
    | .neq => eqlD T true x y K
    | _ => False

def unD (op : UnOp) (x : Value) (K : Value → Prop) : Prop :=
  match op, x with
  | .not, .bool b => K (.bool !b)
  | .neg, .int k n => K (.int k (k.wrap (0 - n)))
  | .xor, .int k n => K (.int k (bitI .xor k (bif k.signed then -1 else k.max) n))
  | _, _ => False

/-- A call of function f enters its body. -/
def Enters (P : Program) (f : Nat) : Prop := ∀ args w, (callFunc f args).run P w = .ok (.enter f args) w

/-- A FUNCTION'S CONTRACT: called so, in this world, it returns, and K holds of what it returns and of the world behind. -/
structure Meets (P : Program) (f : Nat) (args : List Value) (w : World) (K : Value → World → Prop) : Prop where
  enters : Enters P f
  calls : Calls P f args.toArray w fun e w' => ∃ v, e = .returned v ∧ K v w'

theorem Meets.mono {P : Program} {f : Nat} {args : List Value} {w : World} {K K' : Value → World → Prop} (h : Meets P f args w K) (hk : ∀ v w', K v w' → K' v w') : Meets P f args w K' :=
  ⟨h.1, h.2.mono fun _ _ ⟨v, he, hv⟩ => ⟨v, he, hk _ _ hv⟩⟩

theorem enters_of {P : Program} {f : Nat} {fn : Func} (hf : P.funcs[f]? = some fn) (hn : (fn.name == "runtime.NumGoroutine") = false) (hb : fn.body.isNone = false) : Enters P f := by
  intro args w
  unfold callFunc
  simp only [Sem.run_bind, run_program, Result.andThen, hf, hn, hb, Bool.false_eq_true, if_false, Sem.run_pure]

def runD (P : Program) (s : Sem Value) (w : World) (K : Value → World → Prop) : Prop := ∃ v w', s.run P w = .ok v w' ∧ K v w'
def runU (P : Program) (s : Sem Unit) (w : World) (K : Value → World → Prop) : Prop := ∃ w', s.run P w = .ok () w' ∧ K undef w'

/-- A call of yield. -/
def Yld (P : Program) (l : Nat) (args : List Value) (w : World) (R : Ending → World → Prop) : Prop :=
  ∃ fn tmps assign body, (Instr.yield l args.toArray).run P w = .ok (.round l fn tmps assign body) w ∧ RoundIn Fence.wide 0 P l fn tmps assign body w R
def yldD (P : Program) (l : Nat) (args : List Value) (w : World) (K : Value → World → Prop) : Prop :=
  Yld P l args w fun e w' => ∃ v, e = .returned v ∧ K v w'

/-- A new block. -/
def newD (cells : List Value) (t : Nat) (w : World) (K : Nat → World → Prop) : Prop :=
  ∀ b w1, b = w.heap.size → w1 = w.alloc (.cells cells.toArray t) → K b w1

def fillL (fs : List (Nat × Nat)) (cells : List Value) : List (Nat × Value) → Option (List Value)
  | [] => some cells
  | (i, v) :: rest =>
    match fs[i]? with
    | some (off, size) => bif Nat.beq v.cells.toList.length size && Nat.ble (off + size) cells.length then fillL fs (cells.take off ++ v.cells.toList ++ cells.drop (off + size)) rest else none
    | none => none

def partsV (f : Operand → Option Value) : List (Nat × Operand) → Option (List (Nat × Value))
  | [] => some []
  | (i, x) :: l => match f x, partsV f l with
    | some v, some vs => some ((i, v) :: vs)
    | _, _ => none

/-- A slice expression's bounds. -/
def optInt : Option Value → Option (Option Int)
  | none => some none
  | some (.int _ i) => some (some i)
  | _ => none
def optV (f : Operand → Option Value) : Option Operand → Option (Option Value)
  | none => some none
  | some x => (f x).map some

def sliceD (c : List (Bool × Bool)) (esz : Nat) (A : Option Addr) (n cap : Nat) (lo hi mx : Option Int) (K : Value → Prop) : Prop :=
  match lo, hi, mx with
  | none, none, none => K (.slice A n cap)
  | none, some h, none => under c (0 ≤ h ∧ h ≤ cap) ∧ K (.slice A h.toNat cap)
  | some l, none, none => under c (0 ≤ l ∧ l ≤ n) ∧ ∀ A', A' = (if cap = l.toNat then A else A.map (·.add (l.toNat * esz))) → K (.slice A' (n - l.toNat) (cap - l.toNat))
  | some l, some h, none => under c (0 ≤ l ∧ l ≤ h ∧ h ≤ cap) ∧ ∀ A', A' = (if cap = l.toNat then A else A.map (·.add (l.toNat * esz))) → K (.slice A' (h.toNat - l.toNat) (cap - l.toNat))
  | none, some h, some m => under c (0 ≤ h ∧ h ≤ m ∧ m ≤ cap) ∧ ∀ A', A' = A → K (.slice A' h.toNat m.toNat)
  | some l, some h, some m => under c (0 ≤ l ∧ l ≤ h ∧ h ≤ m ∧ m ≤ cap) ∧ ∀ A', A' = (if m.toNat = l.toNat then A else A.map (·.add (l.toNat * esz))) → K (.slice A' (h.toNat - l.toNat) (m.toNat - l.toNat))
  | _, none, some _ => False

def sliceS (c : List (Bool × Bool)) (s : ByteArray) (lo hi : Option Int) (K : Value → Prop) : Prop :=
  match lo, hi with
  | none, none => K (.string (s.extract 0 s.size))
  | none, some h => under c (0 ≤ h ∧ h ≤ s.size) ∧ K (.string (s.extract 0 h.toNat))
  | some l, none => under c (0 ≤ l ∧ l ≤ s.size) ∧ K (.string (s.extract l.toNat s.size))
  | some l, some h => under c (0 ≤ l ∧ l ≤ h ∧ h ≤ s.size) ∧ K (.string (s.extract l.toNat h.toNat))

def byteAt (s : ByteArray) (i : Int) : Int := ((s.data.toList.getD i.toNat 0).toNat : Int)

def maxL : Int → List Value → Option Int
  | x, [] => some x
  | x, .int _ y :: l => maxL (max x y) l
  | _, _ => none
def minL : Int → List Value → Option Int
  | x, [] => some x
  | x, .int _ y :: l => minL (min x y) l
  | _, _ => none

/-- Operations that look at no world, or at its cells alone: without effects, so that they may stand under conditions. -/
def stepP (P : Program) (T : Nat → TI) (f : Operand → Option Value) (c : List (Bool × Bool)) (op : Op) (rd : (World → Prop) → Prop) (K : Value → Prop) : Option Prop :=
  match op with
  | .move x | .assign x => some (need (f x) K)
  | .load t x => some (match f x with
    | some (.pointer A) => (match (T t).k with
      | .agg _ => ∃ a vs, under c (A = some a ∧ vs.length = (T t).size ∧ rd fun w => cellsAt w a 0 vs) ∧ K (.agg vs.toArray)
      | .bad => False
      | _ => ∃ a v, under c (A = some a ∧ rd fun w => w.cell? a = some v) ∧ K v)
    | _ => False)
  | .nilCheck x => some (match f x with
    | some (.pointer A) => ∃ a, under c (A = some a) ∧ K (.pointer (some a))
    | some (.func fn fi ca) => (match fn with | .method _ => False | _ => K (.func fn fi ca))
    | _ => False)
  | .binOp op t x y _ => (match f x, f y with
    | some (.agg _), some (.agg _) => none
    | some u, some v => some (binD (T t) c op u v K)
    | _, _ => some False)
  | .unOp op _ x => some (need (f x) fun v => unD op v K)
  | .convert src dst x => (match f x, (T src).k, (T dst).k with
    | some (.int _ n), .int _, .int k => some (K (.int k (k.wrap n)))
    | some (.string s), .str, .str => some (K (.string s))
    | _, _, _ => none)
  | .makeInterface t x => some (need (f x) fun v => match (T t).k with | .iface => False | .bad => False | _ => K (.iface t v))
  | .makeFunc fn first cap => some (need (needs f first.toList) fun u => need (needs f cap.toList) fun v => K (.func fn u.toArray v.toArray))
  | .fieldAddr t x i => some (match f x, (T t).k with
    | some (.pointer A), .agg fs => (match fs[i]? with
      | some (off, size) => bif Nat.beq size 0 then False else ∃ a, under c (A = some a) ∧ K (.pointer (some (a.add off)))
      | none => False)
    | _, _ => False)
  | .indexAddr t x i => some (match f x, f i, (T t).k with
    | some (.slice A n _), some (.int _ i), .slice _ esz => ∃ a, under c (A = some a ∧ 0 ≤ i ∧ i < n) ∧ K (.pointer (some (a.add (i.toNat * esz))))
    | _, _, _ => False)
  | .index t x i => some (match f x, f i, (T t).k with
    | some (.string s), some (.int _ i), .str => under c (0 ≤ i ∧ i < s.size) ∧ K (.int .u8 (byteAt s i))
    | _, _, _ => False)
  | .slice t x lo hi mx => some (match f x, (optV f lo).bind optInt, (optV f hi).bind optInt, (optV f mx).bind optInt, (T t).k with
    | some (.slice A n cap), some lo, some hi, some mx, .slice _ esz => sliceD c esz A n cap lo hi mx K
    | some (.string s), some lo, some hi, some none, .str => sliceS c s lo hi K
    | _, _, _, _, _ => False)
  | .extract x i => some (match f x with
    | some (.tuple vs) => need vs.toList[i]? K
    | _ => False)
  | .build t ps => some (match (T t).k with
    | .agg fs => bif Nat.ble 1 (T t).zero.length then need (partsV f ps.toList) fun ps => need (fillL fs (T t).zero ps) fun cs => K (.agg cs.toArray) else False
    | _ => False)
  | .call cl => (match cl.callee with
    | .builtin .len => (match needs f cl.args.toList, cl.argTypes.toList with
      | some [.slice _ n _], [t] => (match (T t).k with | .slice _ _ => some (K (.int .i64 n)) | _ => none)
      | some [.string s], [t] => (match (T t).k with | .str => some (K (.int .i64 s.size)) | _ => none)
      | _, _ => none)
    | .builtin .cap => (match needs f cl.args.toList, cl.argTypes.toList with
      | some [.slice _ _ n], [t] => (match (T t).k with | .slice _ _ => some (K (.int .i64 n)) | _ => none)
      | _, _ => none)
    | .builtin .max => (match needs f cl.args.toList with
      | some (.int k x :: l) => some (need (maxL x l) fun z => K (.int k z))
      | _ => none)
    | .builtin .min => (match needs f cl.args.toList with
      | some (.int k x :: l) => some (need (minL x l) fun z => K (.int k z))
      | _ => none)
    | _ => none)
  | _ => none

/-- Calls. -/
def callD (P : Program) (f : Operand → Option Value) (cl : Call) (ty : Nat) (w : World) (K : Value → World → Prop) : Prop :=
  match cl.callee with
  | .value g =>
    match f g, needs f cl.args.toList with
    | some (.func (.func k) first cap), some args => Meets P k (first.toList ++ args ++ cap.toList) w K
    | some (.func (.yield l) first cap), some args => yldD P l (first.toList ++ args) w K
    | _, _ => False
  | .builtin b =>
    match needs f cl.args.toList with
    | some args =>
      match b with
      | .append => runD P (Builtin.append_ cl.argTypes ty args.toArray) w K
      | .len => runD P (Builtin.len_ cl.argTypes ty args.toArray) w K
      | .copy => runD P (Builtin.copy_ cl.argTypes ty args.toArray) w K
      | .delete => runD P (Builtin.delete_ cl.argTypes ty args.toArray) w K
      | .max => runD P (Builtin.max_ cl.argTypes ty args.toArray) w K
      | .min => runD P (Builtin.min_ cl.argTypes ty args.toArray) w K
      | .clear => runD P (Builtin.clear_ cl.argTypes ty args.toArray) w K
      | _ => False
    | none => False
  | _ => False

/-- Operations with effects. -/
def stepE (P : Program) (T : Nat → TI) (f : Operand → Option Value) (op : Op) (ty : Nat) (w : World) (K : Value → World → Prop) : Prop :=
  match op with
  | .alloc t => bif Nat.beq (T t).zero.length (T t).size && Nat.ble 1 (T t).size then newD (T t).zero t w fun b w1 => K (.pointer (some ⟨b, 0, none⟩)) w1 else False
  | .box t x => need (f x) fun v => newD v.cells.toList t w fun b w1 => K (.pointer (some ⟨b, 0, none⟩)) w1
  | .buildSlice t len ps => (match (T t).k with
    | .slice e esz => bif Nat.ble (len * esz) 16777216 then
        need (partsV f ps.toList) fun ps => need (fillL ((List.range len).map fun i => (i * esz, esz)) (List.replicate len (T e).zero).flatten ps) fun cs =>
          bif Nat.beq (T e).zero.length esz then newD cs e w fun b w1 => K (.slice (some ⟨b, 0, none⟩) len len) w1 else False
      else False
    | _ => False)
  | .store t x y => (match f x, f y with
    | some (.pointer A), some v => needPtr A fun a => bif Nat.beq v.cells.toList.length (T t).size && Nat.ble 1 (T t).size then wrAt w a 0 v.cells.toList ∧ ∀ w1, w1 = setCells w a 0 v.cells.toList → K undef w1 else False
    | _, _ => False)
  | .convert src dst x => need (f x) fun v => runD P (Go.convert src dst v) w K
  | .makeMap t r => need (optV f r) fun v => runD P (Instr.makeMap t v) w K
  | .makeSlice t l n => need (f l) fun u => need (f n) fun v => runD P (Instr.makeSlice t u v) w K
  | .lookup t x i ok => need (f x) fun u => need (f i) fun v => runD P (Instr.lookup t u v ok) w K
  | .mapUpdate t m k x => need (f m) fun a => need (f k) fun b => need (f x) fun c => runU P (Instr.mapUpdate t a b c) w K
  | .insert t m k x => need (f m) fun a => need (f k) fun b => need (f x) fun c => runU P (Instr.mapUpdate t a b c) w K
  | .mapEntry t m k => need (f m) fun a => need (f k) fun b => runD P (Instr.mapEntry t a b) w K
  | .entryStore t m s x => need (f m) fun a => need (f s) fun b => need (f x) fun c => runU P (Instr.entryStore t a b c) w K
  | .range t x => need (f x) fun a => runD P (Instr.range t a) w K
  | .next i s => need (f i) fun a => runD P (Instr.next a s ty) w K
  | .entry i => need (f i) fun a => runD P (Instr.entry a) w K
  | .typeAssert x t u ok => need (f x) fun a => runD P (Instr.typeAssert a t u ok) w K
  | .binOp op t x y _ => need (f x) fun a => need (f y) fun b => runD P (do eqGuard op t x y a b; Go.binOp op t a b) w K
  | .index t x i => need (f x) fun a => need (f i) fun b => runD P (Instr.index t a b) w K
  | .field t x i => need (f x) fun a => runD P (Instr.field t a i) w K
  | .call cl => callD P f cl ty w K
  | _ => False

/-! ### Regions -/

structure RS where
  ρ : Slots
  γ : List (Nat × List (Nat × Bool) × Value) := []
  σ : List (Nat × List (Nat × Bool) × Bool) := []

def bEq (a b : Bool) : Bool := bif a then b else !b
def memG (s : Nat) (b : Bool) : List (Nat × Bool) → Bool
  | [] => false
  | (s', b') :: l => (Nat.beq s' s && bEq b' b) || memG s b l
def subG : List (Nat × Bool) → List (Nat × Bool) → Bool
  | [], _ => true
  | (s, b) :: l, G => memG s b G && subG l G
def lookγ (G : List (Nat × Bool)) (t : Nat) : List (Nat × List (Nat × Bool) × Value) → Option Value
  | [] => none
  | (d, gs, v) :: l => bif Nat.beq d t then (bif subG gs G then some v else none) else lookγ G t l
def lookG (r : RS) (G : List (Nat × Bool)) (t : Nat) : Option Value :=
  match look r.ρ t with
  | some v => some v
  | none => lookγ G t r.γ
def findγ (t : Nat) : List (Nat × List (Nat × Bool) × Value) → Option (List (Nat × Bool) × Value)
  | [] => none
  | (d, x) :: l => bif Nat.beq d t then some x else findγ t l
def findσ (s : Nat) : List (Nat × List (Nat × Bool) × Bool) → Option (List (Nat × Bool) × Bool)
  | [] => none
  | (d, x) :: l => bif Nat.beq d s then some x else findσ s l
def dropγ (t : Nat) : List (Nat × List (Nat × Bool) × Value) → List (Nat × List (Nat × Bool) × Value)
  | [] => []
  | (d, x) :: l => bif Nat.beq d t then dropγ t l else (d, x) :: dropγ t l
def condsOf (σ : List (Nat × List (Nat × Bool) × Bool)) : List (Nat × Bool) → Option (List (Bool × Bool))
  | [] => some []
  | (s, b) :: l => match findσ s σ, condsOf σ l with
    | some (_, e), some c => some ((e, b) :: c)
    | _, _ => none

def putR (n : Nat) (d : Option Nat) (G : List (Nat × Bool)) (v : Value) (r : RS) (K : RS → Prop) : Prop :=
  match d with
  | none => K r
  | some d => match r with
    | ⟨ρ, γ, σ⟩ => bif Nat.blt d n && (findσ d σ).isNone then
      (match G with
       | [] => (match γ with
         | [] => K ⟨(d, some v) :: ρ, [], σ⟩
         | g :: γ' => K ⟨(d, some v) :: ρ, dropγ d (g :: γ'), σ⟩)
       | x :: G' => (match γ with
         | [] => K ⟨(d, none) :: ρ, [(d, x :: G', v)], σ⟩
         | g :: γ' => K ⟨(d, none) :: ρ, (d, x :: G', v) :: dropγ d (g :: γ'), σ⟩))
    else False

def guardR (L : List Oper) (j : Nat) (want : Bool) (r : RS) (K : List (Nat × Bool) → RS → Prop) : Prop :=
  match (L[j]?).bind (·.dst) with
  | none => False
  | some s => match r with
    | ⟨ρ, γ, σ⟩ =>
    match findσ s σ with
    | some (gs, e) => K ((s, want) :: gs) ⟨ρ, γ, σ⟩
    | none =>
      match look ρ s with
      | some (.bool e) => K [(s, want)] ⟨ρ, γ, (s, [], e) :: σ⟩
      | some _ => False
      | none =>
        match findγ s γ with
        | some (gs, .bool e) => K ((s, want) :: gs) ⟨ρ, γ, (s, gs, e) :: σ⟩
        | _ => False

def isT : Operand → Bool
  | .const (.bool true) => true
  | _ => false
def isF : Operand → Bool
  | .const (.bool false) => true
  | _ => false

def pickR (r : RS) (G : List (Nat × Bool)) (c a b : Operand) (K : Value → Prop) : Prop :=
  match c with
  | .tmp s =>
    match lookG r G s with
    | some (.bool e) =>
      bif isT a then (match evalIn (lookG r ((s, false) :: G)) b with
        | some (.bool y) => K (.bool (e || y))
        | _ => False)
      else bif isF b then (match evalIn (lookG r ((s, true) :: G)) a with
        | some (.bool y) => K (.bool (e && y))
        | _ => False)
      else False
    | _ => False
  | _ => False

def stepR (P : Program) (T : Nat → TI) (n : Nat) (o : Oper) (G : List (Nat × Bool)) (c : List (Bool × Bool)) (r : RS) (rd : (World → Prop) → Prop) (w : World) (K : RS → World → Prop) : Prop :=
  match o.op with
  | .pick x a b => pickR r G x a b fun v => putR n o.dst G v r fun r' => K r' w
  | op =>
    match stepP P T (evalIn (lookG r G)) c op rd (fun v => putR n o.dst G v r fun r' => K r' w) with
    | some p => p
    | none =>
      match c with
      | [] => stepE P T (evalIn (lookG r G)) op o.type w fun v w' => putR n o.dst G v r fun r' => K r' w'
      | _ => ((conds c → stepE P T (evalIn (lookG r G)) op o.type w fun v w' => putR n o.dst G v r fun r' => K r' w') ∧ (¬ conds c → putR n o.dst G (.bool false) r fun r' => K r' w)) ∨
        ∃ v, (conds c → stepE P T (evalIn (lookG r G)) op o.type w fun v' w' => v' = v ∧ w' = w) ∧ putR n o.dst G v r fun r' => K r' w

/-- One operation of a region, its guard looked at. -/
def oneD (P : Program) (T : Nat → TI) (n : Nat) (L : List Oper) (o : Oper) (r : RS) (rd : (World → Prop) → Prop) (w : World) (K : RS → World → Prop) : Prop :=
  match o.guard with
  | none => stepR P T n o [] [] r rd w K
  | some (j, want) => guardR L j want r fun G r' => need (condsOf r'.σ G) fun c => stepR P T n o G c r' rd w K

noncomputable def opsD (P : Program) (T : Nat → TI) (n : Nat) (L : List Oper) (l : List Oper) : RS → World → (RS → World → Prop) → Prop :=
  List.rec (motive := fun _ => RS → World → (RS → World → Prop) → Prop) (fun r w Q => Q r w) (fun o _ ih r w Q => oneD P T n L o r (fun p => p w) w fun r' w' => ih r' w' Q) l
theorem opsD_nil {P T n L r w Q} : opsD P T n L [] r w Q = Q r w := rfl
theorem opsD_cons {P T n L o l r w Q} : opsD P T n L (o :: l) r w Q = oneD P T n L o r (fun p => p w) w fun r' w' => opsD P T n L l r' w' Q := rfl

/-! ### Regions whose order is open -/

/-- An order in which a region is walked: 'held i': i may be taken first (it only reads); 'one i': i alone may come up; 'two': i or j. The flag: does what the loads rest on have to hold behind it? -/
inductive OT where
  | nil
  | held (i : Nat) (t : OT)
  | one (i : Nat) (s : Bool) (t : OT)
  | two (i : Nat) (s : Bool) (t : OT) (j : Nat) (s' : Bool) (u : OT)

/-- Operations that are held, one behind the other. -/
def hs : List Nat → OT → OT
  | [], t => t
  | i :: l, t => .held i (hs l t)

def isLoad : Op → Bool
  | .load _ _ => true
  | _ => false
def hasEdge (i : Nat) : List Edge → Bool
  | [] => false
  | e :: l => (Nat.beq e.on i && Region.binds .any e) || hasEdge i l
/-- Must what the loads rest on hold behind this operation? Not if it waits for all loads. -/
def needS (o : Oper) : Nat → List Oper → Bool
  | _, [] => false
  | i, x :: l => (isLoad x.op && !hasEdge i o.after.toList) || needS o (i + 1) l

/-- A held operation. -/
def heldR (P : Program) (T : Nat → TI) (n : Nat) (o : Oper) (G : List (Nat × Bool)) (c : List (Bool × Bool)) (r : RS) (rd : (World → Prop) → Prop) (K : RS → Prop) : Prop :=
  match o.op with
  | .pick x a b => pickR r G x a b fun v => putR n o.dst G v r K
  | op => match stepP P T (evalIn (lookG r G)) c op rd (fun v => putR n o.dst G v r K) with
    | some p => p
    | none => False
def heldD (P : Program) (T : Nat → TI) (n : Nat) (L : List Oper) (o : Oper) (r : RS) (rd : (World → Prop) → Prop) (K : RS → Prop) : Prop :=
  match o.guard with
  | none => heldR P T n o [] [] r rd K
  | some (j, want) => guardR L j want r fun G r' => need (condsOf r'.σ G) fun c => heldR P T n o G c r' rd K

def effD (P : Program) (T : Nat → TI) (n : Nat) (L : List Oper) (S : World → Prop) (i : Nat) (s : Bool) (r : RS) (w : World) (K : RS → World → Prop) : Prop :=
  need L[i]? fun o => oneD P T n L o r (fun p => p w) w fun r' w' => bif s then S w' ∧ K r' w' else K r' w'

noncomputable def treeD (P : Program) (T : Nat → TI) (n : Nat) (L : List Oper) (S : World → Prop) (t : OT) : Bool → RS → World → (RS → World → Prop) → Prop :=
  OT.rec (motive := fun _ => Bool → RS → World → (RS → World → Prop) → Prop)
    (fun _ r w Q => Q r w)
    (fun i _ ih kn r w Q => need L[i]? fun o => bif isLoad o.op && !kn then False else heldD P T n L o r (fun p => ∀ w', S w' → p w') fun r' => ih kn r' w Q)
    (fun i s _ ih _ r w Q => effD P T n L S i s r w fun r' w' => ih s r' w' Q)
    (fun i s _ j s' _ iht ihu _ r w Q => (effD P T n L S i s r w fun r' w' => iht s r' w' Q) ∧ (effD P T n L S j s' r w fun r' w' => ihu s' r' w' Q)) t
theorem treeD_nil {P T n L S kn r w Q} : treeD P T n L S .nil kn r w Q = Q r w := rfl
theorem treeD_held {P T n L S i t kn r w Q} : treeD P T n L S (.held i t) kn r w Q = need L[i]? fun o => bif isLoad o.op && !kn then False else heldD P T n L o r (fun p => ∀ w', S w' → p w') fun r' => treeD P T n L S t kn r' w Q := rfl
theorem treeD_one {P T n L S i s t kn r w Q} : treeD P T n L S (.one i s t) kn r w Q = effD P T n L S i s r w fun r' w' => treeD P T n L S t s r' w' Q := rfl
theorem treeD_two {P T n L S i s t j s' u kn r w Q} : treeD P T n L S (.two i s t j s' u) kn r w Q = ((effD P T n L S i s r w fun r' w' => treeD P T n L S t s r' w' Q) ∧ (effD P T n L S j s' r w fun r' w' => treeD P T n L S u s' r' w' Q)) := rfl

def OT.depth : OT → Nat
  | .nil => 0
  | .held _ t => t.depth + 1
  | .one _ _ t => t.depth + 1
  | .two _ _ t _ _ u => max t.depth u.depth + 1
def flagOk (ops : Array Oper) (i : Nat) (s : Bool) : Bool := s || !((ops[i]?).any fun o => needS o 0 ops.toList)
def OT.ok (ops : Array Oper) : OT → Array Bool → Bool
  | .nil, l => (Region.ready .any ops l).isEmpty
  | .held i t, l => (Region.ready .any ops l).contains i && Region.free .any ops l i && t.ok ops (l.setIfInBounds i true)
  | .one i s t, l => Region.ready .any ops l == [i] && flagOk ops i s && t.ok ops (l.setIfInBounds i true)
  | .two i s t j s' u, l => Region.ready .any ops l == [i, j] && flagOk ops i s && flagOk ops j s' && t.ok ops (l.setIfInBounds i true) && u.ok ops (l.setIfInBounds j true)
def noDefer (ops : Array Oper) : Bool := ops.toList.all fun o => match o.op with | .defer _ => false | _ => true
def OT.valid (ops : Array Oper) (t : OT) : Bool := Region.noSelect ops && noDefer ops && Nat.ble t.depth ops.size && t.ok ops (Array.replicate ops.size false)

/-- What a region whose order is open owes: an order, what its loads rest on. -/
noncomputable def drawD (P : Program) (T : Nat → TI) (n : Nat) (ops : Array Oper) (r : RS) (w : World) (Q : RS → World → Prop) : Prop :=
  ∃ (t : OT) (S : World → Prop), P.follows .mixedOrders = true ∧ t.valid ops = true ∧ S w.drew ∧ treeD P T n ops.toList S t true r w.drew Q

/-! ### Code -/

def dsts : List Oper → List Nat
  | [] => []
  | o :: l => match o.dst with
    | some d => d :: dsts l
    | none => dsts l
/-- The slots that code may write. -/
def mods : Code → List Nat
  | .region _ ops _ => dsts ops.toList
  | .seq a b => mods a ++ mods b
  | .cond _ a b => mods a ++ mods b
  | .block _ c => mods c
  | .loop c => mods c
  | .scope c => mods c
  | .rangeFunc _ _ _ _ => []
  | _ => []
def memN (t : Nat) : List Nat → Bool
  | [] => false
  | s :: l => Nat.beq s t || memN t l
/-- Is every slot that code may write in a list, or unknown? -/
def okMs (ρ : Slots) (ms : List Nat) : List Nat → Bool
  | [] => true
  | t :: l => (memN t ms || (look ρ t).isNone) && okMs ρ ms l
def looks (ρ : Slots) : List Nat → Option (List Value)
  | [] => some []
  | t :: l => match look ρ t, looks ρ l with
    | some v, some vs => some (v :: vs)
    | _, _ => none
def bindS : List Nat → List Value → Slots → Slots
  | t :: ts, v :: vs, ρ => (t, some v) :: bindS ts vs ρ
  | _, _, ρ => ρ

/-- What a loop owes: a relation on the slots that it writes and on the world, a measure. ms: the slots; body: a round from given values. -/
def loopD (ms : List Nat) (start : Option (List Value)) (w : World) (body : List Value → World → ((List Value → World → Prop) → Prop)) : Prop :=
  ∃ (I : List Value → World → Prop) (μ : List Value → World → Nat), need start (fun vs => I vs w) ∧
    ∀ vs w1, I vs w1 → vs.length = ms.length ∧ body vs w1 fun vs' w2 => I vs' w2 ∧ μ vs' w2 < μ vs w1

/-- Are a condition's ways joined behind it? -/
def joins (J : List Nat) : Operand → Bool
  | .tmp s => memN s J
  | _ => false

/-- Does code hold a range over a function? -/
def hasRF : Code → Bool
  | .seq a b => hasRF a || hasRF b
  | .cond _ a b => hasRF a || hasRF b
  | .block _ c => hasRF c
  | .loop c => hasRF c
  | .scope c => hasRF c
  | .rangeFunc _ _ _ _ => true
  | _ => false

/-- A record of a range over a function: its code, what its frame held. -/
structure IsRec (n : Nat) (ρ : Slots) (ps : Array Nat) (as body : Code) (r : Loop) : Prop where
  params : r.params = ps
  assign : r.assign = as
  body : r.body = body
  size : r.tmps.size = n
  slots : ∀ t v, look ρ t = some v → r.tmps[t]? = some v

/-- Behind the function that was ranged over: the pending jump. -/
def afterD (l : Nat) (m : List Nat) (Q : Exit → List Nat → World → Prop) (w3 : World) : Prop :=
  ∃ r3, w3.heap[l]? = some (.loop r3) ∧ r3.state ≠ .busy ∧ ∀ w4, w4 = w3.putObj l (.loop { r3 with state := .exhausted }) →
    match r3.pending with
    | none => Q .normal m w4
    | some .ret => Q .ret m w4
    | some (.exit id) => Q (.exit id) m w4
    | _ => False

/-- What a range over a function owes: the function's contract, at yield. -/
def rangeD (P : Program) (n : Nat) (ro : Option Nat) (ρ : Slots) (m : List Nat) (ps : Array Nat) (as body : Code) (k : Nat) (first cap : List Value) (w : World) (Q : Exit → List Nat → World → Prop) : Prop :=
  match ro with
  | none => ∀ r, IsRec n ρ ps as body r → r.state = .ready → r.pending = none → ∀ D l w1, D = w.heap.size → l = w.heap.size + 1 → w1 = (w.alloc (.deferred (some []))).alloc (.loop r) →
      Meets P k (first ++ [.func (.yield l) #[] #[]] ++ cap) w1 fun _ w3 => afterD l (D :: m) Q w3
  | some l0 => (∃ r0, w.heap[l0]? = some (.loop r0)) ∧ ∀ r, IsRec n ρ ps as body r → r.state = .ready → r.pending = none → ∀ l w1, l = w.heap.size → w1 = w.alloc (.loop r) →
      Meets P k (first ++ [.func (.yield l) #[] #[]] ++ cap) w1 fun _ w3 => afterD l m Q w3

/-- What a loop owes that holds a range over a function: it may leave marks. -/
def loopM (ms : List Nat) (start : Option (List Value)) (m : List Nat) (w : World) (body : List Value → List Nat → World → ((List Value → List Nat → World → Prop) → Prop)) : Prop :=
  ∃ (I : List Value → List Nat → World → Prop) (μ : List Value → World → Nat), need start (fun vs => I vs m w) ∧
    ∀ vs m1 w1, I vs m1 w1 → vs.length = ms.length ∧ body vs m1 w1 fun vs' m2 w2 => I vs' m2 w2 ∧ μ vs' w2 < μ vs w1

/-- What code owes: written by the recursor, so that Lean's kernel and its elaborator see the same terms. -/
noncomputable def den (P : Program) (T : Nat → TI) (n : Nat) (ro : Option Nat) (J : List Nat) (c : Code) : (Exit → Env → World → Prop) → Env → World → Prop :=
  Code.rec (motive := fun _ => (Exit → Env → World → Prop) → Env → World → Prop)
    (skip := fun Q ρ w => Q .normal ρ w)
    (region := fun id ops draw Q env w => match draw, env with
      | false, ⟨ρ, m⟩ => opsD P T n ops.toList ops.toList ⟨ρ, [], []⟩ w fun r w' => match r with
        | ⟨ρ', _, _⟩ => Q .normal ⟨ρ', m⟩ w'
      | true, ⟨ρ, m⟩ => bif memN (100000 + id) J then
          ∃ (ms : List Nat) (I : List Value → World → Prop), okMs ρ ms (dsts ops.toList) = true ∧
            drawD P T n ops ⟨ρ, [], []⟩ w (fun r w' => need (looks r.ρ ms) fun vs => I vs w') ∧
            ∀ vs w', I vs w' → vs.length = ms.length ∧ Q .normal ⟨bindS ms vs ρ, m⟩ w'
        else drawD P T n ops ⟨ρ, [], []⟩ w fun r w' => match r with
          | ⟨ρ', _, _⟩ => Q .normal ⟨ρ', m⟩ w')
    (seq := fun _ _ iha ihb Q ρ w => iha (fun e ρ' w' => match e with
      | .normal => ihb Q ρ' w'
      | e => Q e ρ' w') ρ w)
    (cond := fun c a b iha ihb Q ρ w => match evalIn (look ρ.ρ) c with
      | some (.bool x) => bif joins J c then
          bif (hasRF a || hasRF b) && ro.isNone then False else ∃ (ms : List Nat) (I : List Value → World → Prop), okMs ρ.ρ ms (mods a ++ mods b) = true ∧
            (x = true → iha (fun e ρ' w' => match e with
              | .normal => need (looks ρ'.ρ ms) fun vs => I vs w'
              | e => Q e ρ' w') ρ w) ∧
            (x = false → ihb (fun e ρ' w' => match e with
              | .normal => need (looks ρ'.ρ ms) fun vs => I vs w'
              | e => Q e ρ' w') ρ w) ∧
            ∀ vs w', I vs w' → vs.length = ms.length ∧ Q .normal ⟨bindS ms vs ρ.ρ, ρ.m⟩ w'
        else (x = true → iha Q ρ w) ∧ (x = false → ihb Q ρ w)
      | _ => False)
    (block := fun id _ ih Q ρ w => ih (fun e ρ' w' => match e with
      | .exit id' => bif Nat.beq id' id then Q .normal ρ' w' else Q (.exit id') ρ' w'
      | e => Q e ρ' w') ρ w)
    (loop := fun c ih Q ρ w => bif hasRF c && ro.isNone then ∃ ms, okMs ρ.ρ ms (mods c) = true ∧ loopM ms (looks ρ.ρ ms) ρ.m w fun vs m1 w1 K => ih (fun e ρ' w' => match e with
        | .normal => need (looks ρ'.ρ ms) fun vs' => K vs' ρ'.m w'
        | e => Q e ρ' w') ⟨bindS ms vs ρ.ρ, m1⟩ w1
      else ∃ ms, okMs ρ.ρ ms (mods c) = true ∧ loopD ms (looks ρ.ρ ms) w fun vs w1 K => ih (fun e ρ' w' => match e with
        | .normal => need (looks ρ'.ρ ms) fun vs' => K vs' w'
        | e => Q e ρ' w') ⟨bindS ms vs ρ.ρ, ρ.m⟩ w1)
    (rangeFunc := fun g ps as body _ _ Q env w => match env with
      | ⟨ρ, m⟩ => match evalIn (look ρ) g with
        | some (.func (.func k) first cap) => rangeD P n ro ρ m ps as body k first.toList cap.toList w fun e m' w' => Q e ⟨ρ, m'⟩ w'
        | _ => False)
    (exit := fun id Q ρ w => Q (.exit id) ρ w)
    (scope := fun _ ih Q ρ w => ih Q ρ w)
    (label := fun _ Q ρ w => Q .normal ρ w)
    (goto := fun _ _ _ _ => False)
    (ret := fun Q ρ w => Q .ret ρ w)
    (refuse := fun _ _ _ _ => False) c

section
variable {P : Program} {T : Nat → TI} {n : Nat} {ro : Option Nat} {J : List Nat} {Q : Exit → Env → World → Prop} {w : World}
theorem den_cond {c : Operand} {a b : Code} {ρ : Env} : den P T n ro J (.cond c a b) Q ρ w = match evalIn (look ρ.ρ) c with
      | some (.bool x) => bif joins J c then
          bif (hasRF a || hasRF b) && ro.isNone then False else ∃ (ms : List Nat) (I : List Value → World → Prop), okMs ρ.ρ ms (mods a ++ mods b) = true ∧
            (x = true → den P T n ro J a (fun e ρ' w' => match e with
              | .normal => need (looks ρ'.ρ ms) fun vs => I vs w'
              | e => Q e ρ' w') ρ w) ∧
            (x = false → den P T n ro J b (fun e ρ' w' => match e with
              | .normal => need (looks ρ'.ρ ms) fun vs => I vs w'
              | e => Q e ρ' w') ρ w) ∧
            ∀ vs w', I vs w' → vs.length = ms.length ∧ Q .normal ⟨bindS ms vs ρ.ρ, ρ.m⟩ w'
        else (x = true → den P T n ro J a Q ρ w) ∧ (x = false → den P T n ro J b Q ρ w)
      | _ => False := rfl
theorem den_loop {c : Code} {ρ : Env} : den P T n ro J (.loop c) Q ρ w = (bif hasRF c && ro.isNone then ∃ ms, okMs ρ.ρ ms (mods c) = true ∧ loopM ms (looks ρ.ρ ms) ρ.m w fun vs m1 w1 K => den P T n ro J c (fun e ρ' w' => match e with
        | .normal => need (looks ρ'.ρ ms) fun vs' => K vs' ρ'.m w'
        | e => Q e ρ' w') ⟨bindS ms vs ρ.ρ, m1⟩ w1
      else ∃ ms, okMs ρ.ρ ms (mods c) = true ∧ loopD ms (looks ρ.ρ ms) w fun vs w1 K => den P T n ro J c (fun e ρ' w' => match e with
        | .normal => need (looks ρ'.ρ ms) fun vs' => K vs' w'
        | e => Q e ρ' w') ⟨bindS ms vs ρ.ρ, ρ.m⟩ w1) := rfl
theorem den_draw {id : Nat} {ops : Array Oper} {ρ : Slots} {m : List Nat} : den P T n ro J (.region id ops true) Q ⟨ρ, m⟩ w = (bif memN (100000 + id) J then
          ∃ (ms : List Nat) (I : List Value → World → Prop), okMs ρ ms (dsts ops.toList) = true ∧
            drawD P T n ops ⟨ρ, [], []⟩ w (fun r w' => need (looks r.ρ ms) fun vs => I vs w') ∧
            ∀ vs w', I vs w' → vs.length = ms.length ∧ Q .normal ⟨bindS ms vs ρ, m⟩ w'
        else drawD P T n ops ⟨ρ, [], []⟩ w fun r w' => match r with
          | ⟨ρ', _, _⟩ => Q .normal ⟨ρ', m⟩ w') := rfl
theorem den_rangeFunc {g : Operand} {ps : Array Nat} {as body : Code} {ρ : Slots} {m : List Nat} : den P T n ro J (.rangeFunc g ps as body) Q ⟨ρ, m⟩ w = match evalIn (look ρ) g with
        | some (.func (.func k) first cap) => rangeD P n ro ρ m ps as body k first.toList cap.toList w fun e m' w' => Q e ⟨ρ, m'⟩ w'
        | _ => False := rfl
theorem den_block {id : Nat} {c : Code} {ρ : Env} : den P T n ro J (.block id c) Q ρ w = den P T n ro J c (fun e ρ' w' => match e with
      | .exit id' => bif Nat.beq id' id then Q .normal ρ' w' else Q (.exit id') ρ' w'
      | e => Q e ρ' w') ρ w := rfl
end

end Go.Den

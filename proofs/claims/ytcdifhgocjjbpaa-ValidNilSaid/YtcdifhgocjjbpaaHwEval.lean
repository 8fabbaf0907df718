/- The evaluator: an operation, a region, a piece of code as a predicate on heaps, in continuation style; sound for the model's machine. -/
import Derived.Test.YtcdifhgocjjbpaaHwCore
set_option linter.unusedVariables false
namespace Go.HW
open Go

/-! ### Shapes of values, by types -/
inductive Leaf where
  | int (k : IntKind) | bool | str | ptr | addr | sl | map | raw
inductive Shape where
  | leaf (l : Leaf)
  | agg (ls : List Leaf)
  | big (n : Nat)
  | tup (ss : List Shape)
  | next
  | flag
  | any

def leafOf : TypeDesc → Leaf
  | .int k => .int k | .bool => .bool | .string => .str | .pointer _ => .ptr | .slice _ => .sl | .map _ _ => .map | _ => .raw
/-- The cells of a value of a type, by what each holds. -/
def leaves (P : Program) : Nat → TypeId → List Leaf
  | 0, _ => []
  | d + 1, t => match P.underlying t with
    | some (.struct fs) => fs.toList.flatMap fun f => leaves P d f.type
    | some (.array n e) => (List.replicate n (leaves P d e)).flatten
    | some x => [leafOf x]
    | none => []
def aggShape (P : Program) (t : TypeId) : Shape :=
  match decide ((leaves P 6 t).length ≤ 16 ∧ (leaves P 6 t).length = P.cellsOf t) with
  | true => .agg (leaves P 6 t)
  | false => .big (P.cellsOf t)
def shape1 (P : Program) (t : TypeId) : Shape :=
  match P.underlying t with
  | some (.struct _) => aggShape P t
  | some (.array n _) => match decide (n ≤ 8) with
    | true => aggShape P t
    | false => .big (P.cellsOf t)
  | some x => .leaf (leafOf x)
  | none => .tup []
def shapeOf (P : Program) (t : TypeId) : Shape :=
  match P.underlying t with
  | some (.tuple ts) => .tup (ts.toList.map (shape1 P))
  | _ => shape1 P t

def exLeaf : Leaf → (Value → Prop) → Prop
  | .int k, F => ∃ n, F (.int k n)
  | .bool, F => ∃ b, F (.bool b)
  | .str, F => ∃ s, F (.string s)
  | .ptr, F => ∃ p, F (.pointer p)
  | .addr, F => ∃ a, F (.pointer (some a))
  | .sl, F => ∃ a n c, F (.slice a n c)
  | .map, F => ∃ r, F (.map r)
  | .raw, F => ∃ v, F v
def exLeaves : List Leaf → List Value → (List Value → Prop) → Prop
  | [], acc, F => F acc.reverse
  | l :: ls, acc, F => exLeaf l fun v => exLeaves ls (v :: acc) F
def ex1 : Shape → (Value → Prop) → Prop
  | .leaf l, F => exLeaf l F
  | .agg ls, F => exLeaves ls [] fun vs => F (.agg vs.toArray)
  | .big _, F => ∃ cs : List Value, F (.agg cs.toArray)
  | .tup _, F => ∃ v, F v
  | .next, F => F (.tuple #[.bool false]) ∨ ∃ (i c : Int), F (.tuple #[.bool true, .int .i64 i, .int .i32 c])
  | .flag, F => ∃ (b : Bool) (r : List Value), F (.tuple ((.bool b :: r).toArray))
  | .any, F => ∃ v, F v
def exTup : List Shape → List Value → (List Value → Prop) → Prop
  | [], acc, F => F acc.reverse
  | s :: ss, acc, F => ex1 s fun v => exTup ss (v :: acc) F
def exV : Shape → (Value → Prop) → Prop
  | .tup ss, F => exTup ss [] fun vs => F (.tuple vs.toArray)
  | s, F => ex1 s F

theorem exLeaf_elim {l : Leaf} {F : Value → Prop} (h : exLeaf l F) : ∃ v, F v := by
  cases l <;> simp only [exLeaf] at h
  case sl => obtain ⟨a, n, c, h⟩ := h; exact ⟨_, h⟩
  all_goals (obtain ⟨x, h⟩ := h; exact ⟨_, h⟩)
theorem exLeaves_elim {ls : List Leaf} : ∀ {acc : List Value} {F : List Value → Prop}, exLeaves ls acc F → ∃ vs, vs.length = acc.length + ls.length ∧ F vs := by
  induction ls with
  | nil => exact fun h => ⟨_, by simp, h⟩
  | cons l ls ih =>
    intro acc F h
    obtain ⟨v, h⟩ := exLeaf_elim h
    obtain ⟨vs, e, h⟩ := ih h
    exact ⟨vs, by simp at e ⊢; omega, h⟩
theorem ex1_elim {s : Shape} {F : Value → Prop} (h : ex1 s F) : ∃ v, F v := by
  cases s with
  | leaf l => exact exLeaf_elim h
  | agg ls => obtain ⟨vs, _, h⟩ := exLeaves_elim h; exact ⟨_, h⟩
  | big n => obtain ⟨cs, h⟩ := h; exact ⟨_, h⟩
  | tup ss => exact h
  | next => rcases h with h | ⟨i, c, h⟩ <;> exact ⟨_, h⟩
  | flag => obtain ⟨b, r, h⟩ := h; exact ⟨_, h⟩
  | any => exact h
theorem exTup_elim {ss : List Shape} : ∀ {acc : List Value} {F : List Value → Prop}, exTup ss acc F → ∃ vs, F vs := by
  induction ss with
  | nil => exact fun h => ⟨_, h⟩
  | cons s ss ih => intro acc F h; obtain ⟨v, h⟩ := ex1_elim h; exact ih h
theorem exV_elim {s : Shape} {F : Value → Prop} (h : exV s F) : ∃ v, F v := by
  cases s with
  | tup ss => obtain ⟨vs, h⟩ := exTup_elim h; exact ⟨_, h⟩
  | leaf l => exact exLeaf_elim h
  | agg ls => exact ex1_elim (s := .agg ls) h
  | big n => exact ex1_elim (s := .big n) h
  | next => exact ex1_elim (s := .next) h
  | flag => exact ex1_elim (s := .flag) h
  | any => exact h

/-- A value of a type, taken apart as its type says. -/
def typed (s : Shape) (K : Value → Prop) (v : Value) : Prop :=
  match s with
  | .any => K v
  | s => exV s fun u => v = u ∧ K u
theorem typed_def {s : Shape} (hs : s ≠ .any) {K : Value → Prop} {v : Value} : typed s K v = exV s fun u => v = u ∧ K u := by
  cases s <;> first | rfl | exact absurd rfl hs
theorem typed_elim {s : Shape} {K : Value → Prop} {v : Value} (h : typed s K v) : K v := by
  by_cases hs : s = .any
  · subst hs; exact h
  · rw [typed_def hs] at h
    obtain ⟨u, rfl, h⟩ := exV_elim h; exact h

/-! ### Reads and writes of variables -/
def rdCells (h : Heap) (a : Addr) : Nat → List Value → Prop
  | _, [] => True
  | i, v :: l => cellH h (a.add i) = some v ∧ rdCells h a (i + 1) l
def ldLeaf (l : Leaf) (a : Addr) (K : Value → Heap → Prop) (h : Heap) : Prop := exLeaf l fun v => cellH h a = some v ∧ K v h
def ldAt (s : Shape) (a : Addr) (K : Value → Heap → Prop) (h : Heap) : Prop :=
  match s with
  | .leaf l => ldLeaf l a K h
  | .agg ls => exLeaves ls [] fun vs => rdCells h a 0 vs ∧ K (.agg vs.toArray) h
  | .big n => ∃ cs : List Value, cs.length = n ∧ rdCells h a 0 cs ∧ K (.agg cs.toArray) h
  | _ => False
/-- One cell is written. -/
def wr (a : Addr) (v : Value) (K : Heap → Prop) (h : Heap) : Prop := oneC v = true ∧ (∃ u, cellH h a = some u) ∧ frozenH h a = false ∧ K (setCellH h a v)
def wrCells (a : Addr) : Nat → List Value → (Heap → Prop) → Heap → Prop
  | _, [], K, h => K h
  | i, v :: l, K, h => wr (a.add i) v (wrCells a (i + 1) l K) h
def stAt (n : Nat) (a : Addr) (v : Value) (K : Heap → Prop) (h : Heap) : Prop :=
  match v with
  | .agg cs => match decide (cs.size = n) with
    | true => wrCells a 0 cs.toList K h
    | false => False
  | v => match n with
    | 1 => wr a v K h
    | _ => False

/-! ### Named numbers -/
def bAnd (k : IntKind) (x y : Int) : Int := k.wrap (BitVec.ofInt k.bits x &&& BitVec.ofInt k.bits y).toNat
def bOr (k : IntKind) (x y : Int) : Int := k.wrap (BitVec.ofInt k.bits x ||| BitVec.ofInt k.bits y).toNat
def bXor (k : IntKind) (x y : Int) : Int := k.wrap (BitVec.ofInt k.bits x ^^^ BitVec.ofInt k.bits y).toNat
def bAndNot (k : IntKind) (x y : Int) : Int := k.wrap (BitVec.ofInt k.bits x &&& ~~~(BitVec.ofInt k.bits y)).toNat
def sShl (k : IntKind) (x y : Int) : Int := k.wrap (x * 2 ^ min y.toNat k.bits)
def sShr (k : IntKind) (x y : Int) : Int := x.fdiv (2 ^ min y.toNat k.bits)
def strLt (x y : ByteArray) : Bool := Op.bytesLess x.toList y.toList

/-- A program of Sem that looks at no memory. -/
def runPure {α : Type} (P : Program) : Sem α → Option α
  | .pure a => some a
  | .program k => runPure P (k P)
  | .mark _ k => runPure P k
  | _ => none
theorem hwp_runPure {α : Type} {P : Program} {s : Sem α} {a : α} (e : runPure P s = some a) {K : α → Heap → Prop} {h : Heap} (H : K a h) : hwp P s K h := by
  induction s with
  | pure b => simp only [runPure, Option.some.injEq] at e; subst e; exact H
  | program k ih => exact ih _ e
  | mark m k ih => exact ih e
  | _ => simp [runPure] at e

/-! ### One operation -/
inductive Fast where
  | val (v : Value)
  | chk (b : Bool) (v : Value)
  | no
def fastOf (o : Option Value) : Fast := match o with | some v => .val v | none => .no

/-- Where a fast program must go through: else nothing holds. -/
def must (o : Option Value) : Fast := match o with | some v => .val v | none => .chk false undef

/-- Equality of plain values (whole numbers, bools, strings, structs of these), as one Bool. -/
def eqvF (g : Field → Option Bool) : List Field → Option Bool
  | [] => some true
  | f :: l => match decide (f.name = "_") with
    | true => none
    | false => match g f, eqvF g l with
      | some a, some b => some (a && b)
      | _, _ => none
def eqv (P : Program) : Nat → TypeId → Value → Value → Option Bool
  | 0, _, _, _ => none
  | d + 1, t, x, y => match P.underlying t with
    | some .bool => match x, y with
      | .bool a, .bool b => some (a == b)
      | _, _ => none
    | some (.int _) => match x, y with
      | .int k a, .int k' b => (match decide (k = k') with | true => some (a == b) | false => none)
      | _, _ => none
    | some .string => match x, y with
      | .string a, .string b => some (decide (a = b))
      | _, _ => none
    | some (.struct fs) => match P.stoodInHeld t with
      | true => none
      | false => match x, y with
        | .agg xs, .agg ys => eqvF (fun f => match runPure P (part f.type xs f.offset), runPure P (part f.type ys f.offset) with
          | some u, some v => eqv P d f.type u v
          | _, _ => none) fs.toList
        | _, _ => none
    | _ => none
def plainT (P : Program) : Nat → TypeId → Bool
  | 0, _ => false
  | d + 1, t => match P.underlying t with
    | some .bool | some (.int _) | some .string => true
    | some (.struct fs) => fs.toList.all fun f => plainT P d f.type
    | _ => false
def plainS (P : Program) (t : TypeId) : Bool :=
  match shape1 P t with
  | .agg _ => plainT P 6 t && !P.eqGuardType P.depth t
  | _ => false
def eqB (o : Option Bool) (f : Bool → Bool) : Fast := match o with | some b => .val (.bool (f b)) | none => .chk false undef
def fastBin (P : Program) (op : BinOp) (t : TypeId) (x y : Value) : Fast :=
  match P.underlying t with
  | some (.int _) => match op, x, y with
    | .shl, .int k a, .int _ b => .chk (decide (0 ≤ b)) (.int k (sShl k a b))
    | .shr, .int k a, .int _ b => .chk (decide (0 ≤ b)) (.int k (sShr k a b))
    | .quo, .int k a, .int k' b => match decide (k = k') with | true => .chk (!decide (b = 0)) (.int k (k.wrap (a.tdiv b))) | false => .chk false undef
    | .rem, .int k a, .int k' b => match decide (k = k') with | true => .chk (!decide (b = 0)) (.int k (a.tmod b)) | false => .chk false undef
    | _, .int _ _, .int _ _ => must (runPure P (Go.binOp op t x y))
    | _, _, _ => .chk false undef
  | some .bool => match x, y with
    | .bool _, .bool _ => must (runPure P (Go.binOp op t x y))
    | _, _ => .chk false undef
  | some .string => match op, x, y with
    | .add, .string a, .string b => .chk (decide (a.size + b.size ≤ 9223372036854775807)) (.string (a ++ b))
    | .eql, .string a, .string b => .val (.bool (decide (a = b)))
    | .neq, .string a, .string b => .val (.bool (!decide (a = b)))
    | .lss, .string a, .string b => .val (.bool (strLt a b))
    | .leq, .string a, .string b => .val (.bool (strLt a b || decide (a = b)))
    | .gtr, .string a, .string b => .val (.bool (!(strLt a b || decide (a = b))))
    | .geq, .string a, .string b => .val (.bool (!strLt a b))
    | _, _, _ => .chk false undef
  | some (.pointer _) => match op, x, y with
    | .eql, .pointer p, .pointer none => .val (.bool p.isNone)
    | .neq, .pointer p, .pointer none => .val (.bool (!p.isNone))
    | _, _, _ => .no
  | some (.slice _) => match op, x, y with
    | .eql, .slice p _ _, .slice none _ _ => .val (.bool p.isNone)
    | .neq, .slice p _ _, .slice none _ _ => .val (.bool (!p.isNone))
    | _, _, _ => .no
  | some (.map _ _) => match op, x, y with
    | .eql, .map p, .map none => .val (.bool p.isNone)
    | .neq, .map p, .map none => .val (.bool (!p.isNone))
    | _, _, _ => .no
  | some (.struct _) => match plainS P t with
    | true => match op with
      | .eql => eqB (eqv P 6 t x y) id
      | .neq => eqB (eqv P 6 t x y) not
      | _ => .no
    | false => .no
  | _ => .no

def fastOp (P : Program) (ρ : Operand → Value) (o : Oper) : Fast :=
  match o.op with
  | .move x | .assign x => .val (ρ x)
  | .pick c a b => match ρ c with
    | .bool t => match ρ a, ρ b with
      | .bool p, .bool q => .val (.bool (match t with | true => p | false => q))
      | p, q => match t with | true => .val p | false => .val q
    | _ => .chk false undef
  | .build t parts => must (runPure P (Instr.build t (parts.map fun (i, x) => (i, ρ x))))
  | .unOp op _ x => must (runPure P (Op.unary op (ρ x)))
  | .makeInterface t x => must (runPure P (Instr.makeInterface t (ρ x)))
  | .makeFunc fn a b => .val (.func fn (a.map ρ) (b.map ρ))
  | .extract x i => must (runPure P (Instr.extract (ρ x) i))
  | .field t x i => match shape1 P t with
    | .agg _ => must (runPure P (Instr.field t (ρ x) i))
    | _ => .no
  | .fieldAddr t x i => match ρ x with
    | .pointer (some a) => must (runPure P (Instr.fieldAt t (.pointer (some a)) i))
    | _ => .chk false undef
  | .convert s d x => match P.underlying s, P.underlying d with
    | some (.int _), some (.int _) => match ρ x with
      | .int _ n => must (runPure P (Go.convert s d (ρ x)))
      | _ => .chk false undef
    | some .string, some .string => match ρ x with
      | .string _ => .val (ρ x)
      | _ => .chk false undef
    | _, _ => .no
  | .binOp op t x y _ => fastBin P op t (ρ x) (ρ y)
  | .call c => match c.callee with
    | .builtin .len => match (c.argTypes[0]?).bind (P.underlying ·) with
      | some (.slice _) | some .string | some (.array ..) => must (runPure P (Builtin.len_ c.argTypes o.type (c.args.map ρ)))
      | _ => .no
    | .builtin .min => match P.underlying o.type with
      | some (.int _) => must (runPure P (Builtin.min_ c.argTypes o.type (c.args.map ρ)))
      | _ => .no
    | .builtin .max => match P.underlying o.type with
      | some (.int _) => must (runPure P (Builtin.max_ c.argTypes o.type (c.args.map ρ)))
      | _ => .no
    | .builtin .cap => match (c.argTypes[0]?).bind (P.underlying ·) with
      | some (.slice _) => must (runPure P (Builtin.cap_ c.argTypes o.type (c.args.map ρ)))
      | _ => .no
    | _ => .no
  | _ => .no

def callable (P : Program) (f : FuncId) : Bool :=
  match P.funcs[f]? with
  | some fn => fn.body.isSome && !(fn.name == "runtime.NumGoroutine")
  | none => false

/-! ### Functions that look at no memory -/
def codeAll (g : Oper → Bool) : Code → Bool
  | .skip | .ret | .exit _ => true
  | .region _ ops _ => ops.toList.all g
  | .seq a b => codeAll g a && codeAll g b
  | .cond _ a b => codeAll g a && codeAll g b
  | .block _ c => codeAll g c
  | _ => false
def pureOp (P : Program) (q : FuncId → Bool) (o : Oper) : Bool :=
  match o.op with
  | .move _ | .assign _ | .unOp .. | .extract .. | .pick .. => true
  | .binOp _ t _ _ _ => match P.underlying t with
    | some (.int _) | some .bool | some .string => true
    | _ => false
  | .convert s d _ => match P.underlying s, P.underlying d with
    | some (.int _), some (.int _) => true
    | _, _ => false
  | .call c => match c.callee with
    | .value (.func f) => q f
    | _ => false
  | _ => false
/-- A guess by the text: it need not be right. -/
def pureB (P : Program) : Nat → FuncId → Bool
  | 0, _ => false
  | d + 1, f => match P.funcs[f]? with
    | some fn => match fn.body with
      | some c => codeAll (pureOp P (pureB P d)) c && (P.inits.idxOf? f).isNone
      | none => false
    | none => false
/-- Called so, in whatever heap, it yields this and leaves the heap. -/
def PureAt (P : Program) (f : FuncId) (args : List Value) (v : Value) : Prop := ∀ h, SpecH P f args h fun r h' => r = v ∧ h' = h

/-- One round of a range over a function. -/
def RSpec (P : Program) (l : Nat) (f : FuncId) (tmps : Array Value) (assign body : Code) (h : Heap) (Q : Value → Heap → Prop) : Prop :=
  ∀ w : World, w.heap = h → RoundIn Fence.wide 0 P l f tmps assign body w fun e w' => ∃ v, e = .returned v ∧ Same w w' ∧ Q v w'.heap
theorem RSpec.mono {P : Program} {l : Nat} {f : FuncId} {tmps : Array Value} {assign body : Code} {h : Heap} {Q Q' : Value → Heap → Prop} (H : RSpec P l f tmps assign body h Q) (hq : ∀ v h', Q v h' → Q' v h') :
    RSpec P l f tmps assign body h Q' := fun w hw => (H w hw).mono fun _ _ ⟨v, e, s, q⟩ => ⟨v, e, s, hq _ _ q⟩
/-- What stands behind a step of the machine. -/
def nextK (P : Program) (K : Value → Heap → Prop) : Next → Heap → Prop
  | .value v, h => K v h
  | .skip, h => K undef h
  | .enter f args, h => SpecH P f args.toList h K
  | .round l f tmps assign body, h => RSpec P l f tmps assign body h K
  | _, _ => False
/-- A function value is called. -/
def callV (P : Program) (v : Value) (args : List Value) (K : Value → Heap → Prop) (h : Heap) : Prop :=
  hwp P (do let d ← Deferred.ofValue v args.toArray; invoke d.target d.args) (nextK P K) h

/-- The operations that yield a value, as the model's own programs. -/
def semV (ρ : Operand → Value) (o : Oper) : Option (Sem Value) :=
  match o.op with
  | .alloc e => some (Instr.alloc e true (.tuple #[]))
  | .box e x => some (Instr.box e (ρ x))
  | .build t parts => some (Instr.build t (parts.map fun (i, x) => (i, ρ x)))
  | .buildSlice t n parts => some (Instr.buildSlice t n (parts.map fun (i, x) => (i, ρ x)))
  | .binOp op t x y _ => some (do eqGuard op t x y (ρ x) (ρ y); Go.binOp op t (ρ x) (ρ y))
  | .convert s d x => some (Go.convert s d (ρ x))
  | .sliceToArrayPointer t x => some (Instr.arrayAt t (ρ x))
  | .makeMap t r => some (Instr.makeMap t (r.map ρ))
  | .makeSlice t l c => some (Instr.makeSlice t (ρ l) (ρ c))
  | .slice t x lo hi mx => some (Instr.sliceAt t (ρ x) (lo.map ρ) (hi.map ρ) (mx.map ρ))
  | .fieldAddr s x f => some (Instr.fieldAt s (ρ x) f)
  | .field t x f => some (Instr.field t (ρ x) f)
  | .indexAddr t x i => some (Instr.indexAt t (ρ x) (ρ i))
  | .index t x i => some (Instr.index t (ρ x) (ρ i))
  | .lookup t x i ok => some (Instr.lookup t (ρ x) (ρ i) ok)
  | .mapEntry t m k => some (Instr.mapEntry t (ρ m) (ρ k))
  | .range t x => some (Instr.range t (ρ x))
  | .next it s => some (Instr.next (ρ it) s o.type)
  | .entry it => some (Instr.entry (ρ it))
  | .typeAssert x a b ok => some (Instr.typeAssert (ρ x) a b ok)
  | .call { callee := .builtin b, args, argTypes } => match b with
    | .append => some (Builtin.append_ argTypes o.type (args.map ρ))
    | .copy => some (Builtin.copy_ argTypes o.type (args.map ρ))
    | .delete => some (Builtin.delete_ argTypes o.type (args.map ρ))
    | .len => some (Builtin.len_ argTypes o.type (args.map ρ))
    | .cap => some (Builtin.cap_ argTypes o.type (args.map ρ))
    | .min => some (Builtin.min_ argTypes o.type (args.map ρ))
    | .max => some (Builtin.max_ argTypes o.type (args.map ρ))
    | .clear => some (Builtin.clear_ argTypes o.type (args.map ρ))
    | _ => none
  | _ => none
def semU (ρ : Operand → Value) (o : Oper) : Option (Sem Unit) :=
  match o.op with
  | .mapUpdate t m k x | .insert t m k x => some (Instr.mapUpdate t (ρ m) (ρ k) (ρ x))
  | .entryStore t m s x => some (Instr.entryStore t (ρ m) (ρ s) (ρ x))
  | .ready g => some (Instr.ready g)
  | _ => none

/-- The shape of what an operation yields. -/
def outShape (P : Program) (o : Oper) : Shape :=
  match o.op with
  | .alloc _ | .box .. | .buildSlice .. | .makeMap .. => .any
  | .fieldAddr .. | .indexAddr .. => .leaf .addr
  | .range .. => .leaf .raw
  | .next _ isString => match isString with
    | true => .next
    | false => .flag
  | .entry _ => .tup [.leaf .raw, .leaf .raw]
  | _ => shapeOf P o.type

/-- A pointer that must not be nil. -/
@[reducible] def nilc (p : Option Addr) (F : Addr → Prop) : Prop := match p with | some a => F a | none => False
def heavyOp (P : Program) (ρ : Operand → Value) (o : Oper) (K : Value → Heap → Prop) (h : Heap) : Prop :=
  match o.op with
  | .load t x => match ρ x with
    | .pointer (some a) => ldAt (shape1 P t) a K h
    | _ => False
  | .store t x v => match ρ x with
    | .pointer (some a) => match P.info? t with
      | some i => stAt i.size a (ρ v) (fun h => K undef h) h
      | none => False
    | _ => False
  | .nilCheck x => match ρ x with
    | .pointer p => nilc p fun a => K (.pointer (some a)) h
    | v => ∃ f a b, v = .func (.func f) a b ∧ K v h
  | .call { callee := .value (.func f), args, .. } => match callable P f with
    | true => match pureB P 4 f with
      | true => ∃ v, PureAt P f (args.toList.map ρ) v ∧ typed (outShape P o) (fun v => K v h) v
      | false => SpecH P f (args.toList.map ρ) h fun v h => typed (outShape P o) (fun v => K v h) v
    | false => hwp P (execOp ρ o) (nextK P fun v h => typed (outShape P o) (fun v => K v h) v) h
  | .call { callee := .value x, args, .. } =>
    callV P (ρ x) (args.toList.map ρ) (fun v h => typed (outShape P o) (fun v => K v h) v) h
  | .call { callee := .invoke .., .. } => hwp P (execOp ρ o) (nextK P fun v h => typed (outShape P o) (fun v => K v h) v) h
  | _ => match semV ρ o with
    | some s => hwp P s (fun v h => typed (outShape P o) (fun v => K v h) v) h
    | none => match semU ρ o with
      | some s => hwp P s (fun _ h => K undef h) h
      | none => False

def opK (P : Program) (ρ : Operand → Value) (o : Oper) (K : Value → Heap → Prop) (h : Heap) : Prop :=
  match fastOp P ρ o with
  | .val v => K v h
  | .chk b v => br b (K v h) False
  | .no => heavyOp P ρ o K h
end Go.HW

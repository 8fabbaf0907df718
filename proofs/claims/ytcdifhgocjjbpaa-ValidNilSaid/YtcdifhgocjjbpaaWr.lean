/- Keys and writes, as cells; as keys of maps. -/
import Derived.Test.YtcdifhgocjjbpaaG
import Derived.Test.YtcdifhgocjjbpaaHwSl
import Derived.Test.YtcdifhgocjjbpaaHwRng
import Derived.Test.YtcdifhgocjjbpaaHwOpen
set_option maxRecDepth 100000
set_option linter.unusedVariables false
namespace Go.Proofs.Ytcdifhgocjjbpaa
open Go Go.HW
structure Key where
  t : ByteArray
  a : ByteArray
  e : ByteArray
  deriving Inhabited, DecidableEq
structure Bx where
  t : ByteArray
  a : ByteArray
  deriving Inhabited, DecidableEq
structure Wr where
  k : Key
  there : Bool
  data : ByteArray
  deriving Inhabited, DecidableEq
def keyV (k : Key) : List Value := [.string k.t, .string k.a, .string k.e]
def bxV (b : Bx) : List Value := [.string b.t, .string b.a]
def wrV (w : Wr) : List Value := [.string w.k.t, .string w.k.a, .string w.k.e, .bool w.there, .string w.data]
def keyA (k : Key) : Value := .agg (keyV k).toArray
def bxA (b : Bx) : Value := .agg (bxV b).toArray
def wrA (w : Wr) : Value := .agg (wrV w).toArray
theorem s1 (s : ByteArray) : (s == s) = true := by rw [bytes_beq]; exact decide_eq_true rfl
theorem KeyK : Keys PP T_api_Key keyA := by
  obtain ⟨fs, hu⟩ := struct_of (P := PP) (t := T_api_Key) (by kernel_rfl)
  refine Keys.plain hu (fun a b => ?_) (fun b a => ?_) (fun a => ?_)
  · have : eqv PP 6 T_api_Key (keyA a) (keyA b) = some (decide (a.t = b.t) && (decide (a.a = b.a) && (decide (a.e = b.e) && true))) := by kernel_rfl
    rw [this]; cases a; cases b; simp [Key.mk.injEq, Bool.decide_and]
  · cases b <;> kernel_rfl
  · rw [show (10000 : Nat) = 9998 + 1 + 1 from rfl]; simp [keyA, keyV, Instr.sameBits, s1]
theorem BoxK : Keys PP T_api_Box bxA := by
  obtain ⟨fs, hu⟩ := struct_of (P := PP) (t := T_api_Box) (by kernel_rfl)
  refine Keys.plain hu (fun a b => ?_) (fun b a => ?_) (fun a => ?_)
  · have : eqv PP 6 T_api_Box (bxA a) (bxA b) = some (decide (a.t = b.t) && (decide (a.a = b.a) && true)) := by kernel_rfl
    rw [this]; cases a; cases b; simp [Bx.mk.injEq, Bool.decide_and]
  · cases b <;> kernel_rfl
  · rw [show (10000 : Nat) = 9998 + 1 + 1 from rfl]; simp [bxA, bxV, Instr.sameBits, s1]
end Go.Proofs.Ytcdifhgocjjbpaa

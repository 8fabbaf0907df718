/- What a printed text (gen2.py) leans on: short names, places in code as numbers, a text proved against its evaluation. -/
import Derived.Test.YtcdifhgocjjbpaaHwCode
set_option linter.unusedVariables false
namespace Go.HW
open Go
abbrev OA := Option Addr
abbrev ON := Option Nat
abbrev VP := Value → Heap → Prop
abbrev EP := Ex → Fr → Heap → Prop
/-- A place in code, as a number: its binary digits behind the first. -/
def pthA : Nat → Nat → List Nat → List Nat
  | 0, _, acc => acc
  | f + 1, n, acc => match Nat.ble n 1 with | true => acc | false => pthA f (n / 2) (n % 2 :: acc)
def pth (n : Nat) : List Nat := pthA 400 n []
theorem of_eq_txt {A T : Prop} (e : A = T) (H : T) : A := e ▸ H
theorem Jn.of_txt {P : Program} {top : Bool} {c : Code} (x : Ann) {fr : Fr} {K : EP} {h : Heap} {T : Prop} (e : ev P top none c x fr K h = T) (H : T) : Jn P top c fr K h := Jn.of_ev (x := x) (e ▸ H)
theorem Lp.of_txt {P : Program} {top : Bool} {c : Code} (x : Ann) (keep : Nat) {fr : Fr} {K : EP} {h : Heap} {T : Prop} (e : ev P top none c x fr (seqK (fun fr h => Lp P top c (fr.mask keep) K h) K) h = T) (H : T) : Lp P top c fr K h := Lp.of_ev (x := x) (keep := keep) (e ▸ H)
theorem Sc.of_txt {P : Program} {top : Bool} {c : Code} (x : Ann) (keep : List (Nat × Nat)) {o : Option Nat} {fr : Fr} {K : EP} {h : Heap} {T : Prop} (e : ev P top o c x fr (scopeK c (fun l fr h => Sc P top c (some l) (fr.mask (keepOf keep l)) K h) K) h = T) (H : T) : Sc P top c o fr K h := Sc.of_ev (x := x) (keep := keep) (e ▸ H)
theorem spec_of_txt {P : Program} {f : FuncId} {fn : Func} {c : Code} {ann : Ann} {args : List Value} {h : Heap} {Q : VP} {T : Prop}
    (hf : P.funcs[f]? = some fn) (hb : fn.body = some c) (hn : hasRange c = false) (e : ev P true none c ann (initFr fn.ntmps args) (bodyK P fn Q) h = T) (H : T) : SpecH P f args h Q := spec_of_ev (ann := ann) hf hb hn (e ▸ H)
theorem spec_of_txtR {P : Program} {f : FuncId} {fn : Func} {c : Code} {ann : Ann} {args : List Value} {h : Heap} {Q : VP} {T : Prop}
    (hf : P.funcs[f]? = some fn) (hb : fn.body = some c) (e : ev P true none c ann (initFr fn.ntmps args) (bodyKR P fn Q) h = T) (H : T) : SpecH P f args h Q := spec_of_evR (ann := ann) hf hb (e ▸ H)
end Go.HW

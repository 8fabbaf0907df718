/- Rows of rows of bytes, as arguments. -/
import Derived.Test.YtjliiiejcalglaaDoorHwOpen
import Derived.Test.YtjliiiejcalglaaDoorHwSl
set_option linter.unusedVariables false
set_option linter.unusedSimpArgs false
namespace Go.HW
open Go
structure Bs where
  a : Option Addr
  n : Nat
  c : Nat
  bs : List Nat
def bsV (s : Bs) : Value := .slice s.a s.n s.c
structure BsWf (h : Heap) (s : Bs) : Prop where
  rd : Rd h s.a (nV s.bs)
  len : s.bs.length = s.n
  le : s.n ≤ s.c
  nil : s.a = none → s.c = 0
  big : s.n ≤ 140737488351232
  lt : ∀ x ∈ s.bs, x < 256
theorem open_bs {P : Program} {W : World} {t e : TypeId} {ecs : List Value} (ht : P.underlying t = some (.slice e)) (he : P.underlying e = some (.int .u8)) (hc : P.cellsOf e = 1) (hb : P.bytesOf e = 1) (hl : ecs.length = 1) (g : Dat P W t ecs) : ∃ x, ecs = [bsV x] ∧ BsWf W.heap x := by
  obtain ⟨a, n, c, bs, h1, h2, h3, h4, h5, h6, h7, h8⟩ := g.nbytes ht he hc
  rw [hb] at h7
  exact ⟨⟨a, n, c, bs⟩, h1, h2, h3, h4, h6, by simpa using h7, h8⟩
def tot (l : List Bs) : Nat := (l.map (·.n)).sum
theorem tot_take_succ {l : List Bs} {i : Nat} (hi : i < l.length) : tot (l.take (i + 1)) = tot (l.take i) + l[i].n := by
  unfold tot; rw [List.take_succ_eq_append_getElem hi]; simp only [List.map_append, List.sum_append, List.map_cons, List.map_nil, List.sum_cons, List.sum_nil, Nat.add_zero]
theorem tot_take_le (l : List Bs) (i : Nat) : tot (l.take i) ≤ tot l := by
  conv => rhs; rw [← List.take_append_drop i l]
  unfold tot; rw [List.map_append, List.sum_append]; omega
theorem bss_len {l : List Bs} (h : ∀ s ∈ l, s.bs.length = s.n) : (l.flatMap (·.bs)).length = tot l := by
  unfold tot; rw [List.length_flatMap]; congr 1
  exact List.map_congr_left h
end Go.HW

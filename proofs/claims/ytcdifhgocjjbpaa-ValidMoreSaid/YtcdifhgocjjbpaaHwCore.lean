/- A frame of proof over heaps alone: what a Go function's text comes to, as a predicate on heaps (no tape, no streams), and that this is sound for the model's own machine. -/
import Derived.Calls
import Derived.CallsIn
import Derived.LoopN
import Derived.KernelRfl
namespace Go.HW
open Go

abbrev Heap := Array Obj

/-- A world with this heap (the rest is of no account). -/
def wOf (h : Heap) : World := { heap := h, tape := fun _ _ => 0, drawn := 0, os := default, output := #[] }
def cellH (h : Heap) (a : Addr) : Option Value := (wOf h).cell? a
def shapeH (h : Heap) (r : Nat) : Option (TypeId × Nat) := (wOf h).shape? r
def frozenH (h : Heap) (a : Addr) : Bool := (wOf h).frozen? a
def freezeH (h : Heap) (a : Addr) (n : Nat) : Heap := ((wOf h).freeze a n).heap
def setCellH (h : Heap) (a : Addr) (v : Value) : Heap := ((wOf h).setCell a v).heap
/-- A value that one cell can hold. -/
def oneC : Value → Bool | .agg _ | .tuple _ => false | _ => true
def isCells : Obj → Bool | .cells .. => true | _ => false

theorem cell_w (w : World) (a : Addr) : w.cell? a = cellH w.heap a := rfl
theorem shape_w (w : World) (r : Nat) : w.shape? r = shapeH w.heap r := rfl
theorem frozen_w (w : World) (a : Addr) : w.frozen? a = frozenH w.heap a := rfl
theorem freeze_w (w : World) (a : Addr) (n : Nat) : (w.freeze a n).heap = freezeH w.heap a n := by
  unfold World.freeze freezeH World.freeze; by_cases h : n = 0 <;> simp [h, wOf]
theorem setCell_w (w : World) (a : Addr) (v : Value) : (w.setCell a v).heap = setCellH w.heap a v := rfl

/-- The blocks for deferred calls of rounds lie as they lay. -/
def isDef : Obj → Bool | .deferred _ => true | _ => false
def KeepD (h h' : Heap) : Prop := ∀ (i : Nat) (o : Obj), h[i]? = some o → isDef o = true → h'[i]? = some o
theorem KeepD.refl (h : Heap) : KeepD h h := fun _ _ e _ => e
theorem KeepD.trans {a b c : Heap} (h : KeepD a b) (k : KeepD b c) : KeepD a c := fun i o e d => k i o (h i o e d) d
theorem KeepD.push (h : Heap) (o : Obj) : KeepD h (h.push o) := fun i o' e _ => by
  have hlt : i < h.size := (Array.getElem?_eq_some_iff.1 e).1
  rw [Array.getElem?_push, if_neg (by omega)]; exact e
theorem KeepD.modify (h : Heap) (r : Nat) (f : Obj → Obj) (hf : ∀ o, isDef o = true → f o = o) : KeepD h (h.modify r f) := fun i o e d => by
  rw [Array.getElem?_modify]
  by_cases hi : r = i
  · rw [if_pos hi, e]; simp [hf o d]
  · rw [if_neg hi]; exact e
theorem KeepD.set {h : Heap} {r : Nat} {o' : Obj} (hr : h[r]? = some o') (hd : isDef o' = false) (o : Obj) : KeepD h (h.setIfInBounds r o) := fun i x e d => by
  by_cases hi : r = i
  · subst hi; rw [hr] at e; cases e; rw [hd] at d; cases d
  · rw [Array.getElem?_setIfInBounds_ne hi]; exact e

structure Same (w w' : World) : Prop where
  os : w'.os = w.os
  tape : w'.tape = w.tape
  output : w'.output = w.output
  defs : KeepD w.heap w'.heap
  size : w.heap.size ≤ w'.heap.size
theorem Same.refl (w : World) : Same w w := ⟨rfl, rfl, rfl, .refl _, Nat.le_refl _⟩
theorem Same.trans {a b c : World} (h : Same a b) (k : Same b c) : Same a c := ⟨k.os.trans h.os, k.tape.trans h.tape, k.output.trans h.output, h.defs.trans k.defs, Nat.le_trans h.size k.size⟩
theorem same_setCell (w : World) (a : Addr) (v : Value) : Same w (w.setCell a v) :=
  ⟨rfl, rfl, rfl, KeepD.modify _ _ _ (fun o d => by cases o <;> first | rfl | (simp [isDef] at d)), by simp [World.setCell]⟩
theorem same_push (w : World) (o : Obj) : Same w { w with heap := w.heap.push o } := ⟨rfl, rfl, rfl, .push _ _, by simp⟩
theorem same_drawn (w : World) (n : Nat) : Same w { w with drawn := n } := ⟨rfl, rfl, rfl, .refl _, Nat.le_refl _⟩
theorem same_freeze (w : World) (a : Addr) (n : Nat) : Same w (w.freeze a n) := by
  unfold World.freeze
  split
  · exact .refl w
  · exact ⟨rfl, rfl, rfl, KeepD.modify _ _ _ (fun o d => by cases o <;> first | rfl | (simp [isDef] at d)), by simp⟩
theorem same_set {w : World} {r : Nat} {o' : Obj} (hr : w.heap[r]? = some o') (hd : isDef o' = false) (o : Obj) : Same w { w with heap := w.heap.setIfInBounds r o } := ⟨rfl, rfl, rfl, .set hr hd o, by simp⟩

def hwp {α : Type} (P : Program) : Sem α → (α → Heap → Prop) → Heap → Prop
  | .pure a, K, h => K a h
  | .load _ a k, K, h => ∃ v, cellH h a = some v ∧ hwp P (k v) K h
  | .store _ a v k, K, h => oneC v = true ∧ (∃ u, cellH h a = some u) ∧ frozenH h a = false ∧ hwp P k K (setCellH h a v)
  | .new o k, K, h => hwp P (k h.size) K (h.push o)
  | .shape r k, K, h => hwp P (k (shapeH h r)) K h
  | .freeze a n k, K, h => hwp P k K (freezeH h a n)
  | .frozen a k, K, h => hwp P (k (frozenH h a)) K h
  | .getObj r k, K, h => ∃ o, h[r]? = some o ∧ isCells o = false ∧ hwp P (k o) K h
  | .setObj r o k, K, h => (∃ o', h[r]? = some o' ∧ isCells o' = false ∧ isDef o' = false) ∧ hwp P k K (h.setIfInBounds r o)
  | .choose q k, K, h => if q.forced then hwp P (k 0) K h else ∀ t, hwp P (k (q.cut t)) K h
  | .sys _ _, _, _ => False
  | .program k, K, h => hwp P (k P) K h
  | .mark _ k, K, h => hwp P k K h
  | .halt _, _, _ => False

theorem hwp_mono {α : Type} {P : Program} (s : Sem α) {K K' : α → Heap → Prop} (hk : ∀ a h, K a h → K' a h) : ∀ {h}, hwp P s K h → hwp P s K' h := by
  induction s with
  | pure a => exact fun H => hk _ _ H
  | load m a k ih => rintro h ⟨v, e, H⟩; exact ⟨v, e, ih v H⟩
  | store m a v k ih => rintro h ⟨e1, e2, e3, H⟩; exact ⟨e1, e2, e3, ih H⟩
  | new o k ih => exact fun H => ih _ H
  | shape r k ih => exact fun H => ih _ H
  | freeze a n k ih => exact fun H => ih H
  | frozen a k ih => exact fun H => ih _ H
  | getObj r k ih => rintro h ⟨o, e, e2, H⟩; exact ⟨o, e, e2, ih _ H⟩
  | setObj r o k ih => rintro h ⟨e, H⟩; exact ⟨e, ih H⟩
  | choose q k ih =>
    intro h H
    simp only [hwp] at H ⊢
    split at H
    · rename_i hf; rw [if_pos hf]; exact ih _ H
    · rename_i hf; rw [if_neg hf]; exact fun t => ih _ (H t)
  | sys c k ih => exact fun H => H
  | program k ih => exact fun H => ih _ H
  | mark m k ih => exact fun H => ih H
  | halt x => exact fun H => H

theorem hwp_bind {α β : Type} {P : Program} (s : Sem α) (f : α → Sem β) (K : β → Heap → Prop) : ∀ h, hwp P (s.bind f) K h ↔ hwp P s (fun a h => hwp P (f a) K h) h := by
  induction s with
  | pure a => exact fun h => Iff.rfl
  | load m a k ih => intro h; simp only [Sem.bind, hwp]; simp [ih]
  | store m a v k ih => intro h; simp only [Sem.bind, hwp]; simp [ih]
  | new o k ih => exact fun h => ih _ _
  | shape r k ih => exact fun h => ih _ _
  | freeze a n k ih => exact fun h => ih _
  | frozen a k ih => exact fun h => ih _ _
  | getObj r k ih => intro h; simp only [Sem.bind, hwp]; simp [ih]
  | setObj r o k ih => intro h; simp only [Sem.bind, hwp]; simp [ih]
  | choose q k ih => intro h; simp only [Sem.bind, hwp]; simp [ih]
  | sys c k ih => exact fun h => Iff.rfl
  | program k ih => exact fun h => ih _ _
  | mark m k ih => exact fun h => ih _
  | halt x => exact fun h => Iff.rfl
theorem hwp_bind' {α β : Type} {P : Program} (s : Sem α) (f : α → Sem β) (K : β → Heap → Prop) (h : Heap) : hwp P (s >>= f) K h ↔ hwp P s (fun a h => hwp P (f a) K h) h := hwp_bind s f K h
theorem hwp_pure {α : Type} {P : Program} (a : α) (K : α → Heap → Prop) (h : Heap) : hwp P (pure a) K h ↔ K a h := Iff.rfl

theorem hwp_sound {α : Type} {P : Program} (s : Sem α) {K : α → Heap → Prop} : ∀ {h}, hwp P s K h → ∀ w : World, w.heap = h → ∃ a w', s.run P w = .ok a w' ∧ Same w w' ∧ K a w'.heap := by
  induction s with
  | pure a => intro h H w hw; subst hw; exact ⟨a, w, rfl, .refl w, H⟩
  | load m a k ih =>
    rintro h ⟨v, e, H⟩ w rfl
    obtain ⟨b, w', hr, hs⟩ := ih v H w rfl
    exact ⟨b, w', by simp only [Sem.run, cell_w, e]; exact hr, hs⟩
  | store m a v k ih =>
    rintro h ⟨e1, ⟨u, e2⟩, e3, H⟩ w rfl
    obtain ⟨b, w', hr, hs, hk⟩ := ih H (w.setCell a v) (setCell_w w a v)
    refine ⟨b, w', ?_, (same_setCell w a v).trans hs, hk⟩
    cases v <;> first | (simp [oneC] at e1; done) | (simp only [Sem.run, cell_w, e2, frozen_w, e3]; exact hr)
  | new o k ih =>
    rintro h H w rfl
    obtain ⟨b, w', hr, hs, hk⟩ := ih _ H { w with heap := w.heap.push o } rfl
    exact ⟨b, w', hr, (same_push w o).trans hs, hk⟩
  | shape r k ih => rintro h H w rfl; exact ih _ H w rfl
  | freeze a n k ih =>
    rintro h H w rfl
    obtain ⟨b, w', hr, hs, hk⟩ := ih H (w.freeze a n) (freeze_w w a n)
    exact ⟨b, w', hr, (same_freeze w a n).trans hs, hk⟩
  | frozen a k ih => rintro h H w rfl; exact ih _ H w rfl
  | getObj r k ih =>
    rintro h ⟨o, e, e2, H⟩ w rfl
    obtain ⟨b, w', hr, hs⟩ := ih o H w rfl
    refine ⟨b, w', ?_, hs⟩
    simp only [Sem.run, e]
    cases o <;> first | (simp [isCells] at e2; done) | exact hr
  | setObj r o k ih =>
    rintro h ⟨⟨o', e, e2, e3⟩, H⟩ w rfl
    obtain ⟨b, w', hr, hs, hk⟩ := ih H { w with heap := w.heap.setIfInBounds r o } rfl
    refine ⟨b, w', ?_, (same_set e e3 o).trans hs, hk⟩
    simp only [Sem.run, e]
    cases o' <;> first | (simp [isCells] at e2; done) | exact hr
  | choose q k ih =>
    rintro h H w rfl
    simp only [hwp] at H
    split at H
    · rename_i hf
      obtain ⟨b, w', hr, hs⟩ := ih _ H w rfl
      exact ⟨b, w', by simp only [Sem.run, hf, if_true]; exact hr, hs⟩
    · rename_i hf
      obtain ⟨b, w', hr, hs, hk⟩ := ih _ (H (w.tape w.drawn q)) { w with drawn := w.drawn + 1 } rfl
      exact ⟨b, w', by simp only [Sem.run, hf]; exact hr, (same_drawn w _).trans hs, hk⟩
  | sys c k ih => exact fun H => H.elim
  | program k ih => rintro h H w rfl; exact ih _ H w rfl
  | mark m k ih => rintro h H w rfl; exact ih H w rfl
  | halt x => exact fun H => H.elim

/-- THE CONTRACT: called so in a heap, it returns a value and a heap that satisfy Q. -/
def SpecH (P : Program) (f : FuncId) (args : List Value) (h : Heap) (Q : Value → Heap → Prop) : Prop :=
  ∀ w : World, w.heap = h → Calls P f args.toArray w fun e w' => ∃ v, e = .returned v ∧ Same w w' ∧ Q v w'.heap

theorem SpecH.mono {P : Program} {f : FuncId} {args : List Value} {h : Heap} {Q Q' : Value → Heap → Prop} (H : SpecH P f args h Q) (hq : ∀ v h', Q v h' → Q' v h') : SpecH P f args h Q' :=
  fun w hw => (H w hw).mono fun _ _ ⟨v, e, s, q⟩ => ⟨v, e, s, hq _ _ q⟩

/-! ### Frames -/
abbrev Fr := List (Option Value)
def Fr.get : Fr → Nat → Option Value
  | [], _ => none
  | x :: _, 0 => x
  | _ :: l, n + 1 => Fr.get l n
def Fr.set : Fr → Nat → Value → Fr
  | [], _, _ => []
  | _ :: l, 0, v => some v :: l
  | x :: l, n + 1, v => x :: Fr.set l n v
def Fr.put (fr : Fr) (d : Option Tmp) (v : Value) : Fr :=
  match d with
  | some d => fr.set d v
  | none => fr
/-- Only the slots whose bits are set are kept. -/
def Fr.mask : Nat → Fr → Fr
  | _, [] => []
  | m, x :: l => (match m % 2 with | 0 => none | _ => x) :: Fr.mask (m / 2) l
def Fr.ev (fr : Fr) : Operand → Option Value
  | .tmp t => fr.get t
  | .const v => some v
  | .global g => some (.pointer (some ⟨g, 0, none⟩))
  | .func f => some (.func (.func f) #[] #[])
def Fr.rho (fr : Fr) (x : Operand) : Value := match fr.ev x with | some v => v | none => undef

/-- What the frame knows is so. -/
def FrRel (fr : Fr) (tmps : Array Value) : Prop := fr.length ≤ tmps.size ∧ ∀ i v, fr.get i = some v → tmps[i]? = some v

theorem Fr.length_set (fr : Fr) (d : Nat) (v : Value) : (fr.set d v).length = fr.length := by
  induction fr generalizing d with
  | nil => rfl
  | cons x l ih => cases d <;> simp [Fr.set, ih]
theorem Fr.length_mask (m : Nat) (fr : Fr) : (fr.mask m).length = fr.length := by
  induction fr generalizing m with
  | nil => rfl
  | cons x l ih => simp [Fr.mask, ih]
theorem Fr.get_set (fr : Fr) (d : Nat) (v : Value) (i : Nat) : (fr.set d v).get i = if i = d ∧ d < fr.length then some v else fr.get i := by
  induction fr generalizing d i with
  | nil => simp [Fr.set, Fr.get]
  | cons x l ih =>
    cases d with
    | zero => cases i <;> simp [Fr.set, Fr.get]
    | succ d => cases i <;> simp [Fr.set, Fr.get, ih]
theorem Fr.get_mask {m : Nat} {fr : Fr} {i : Nat} {v : Value} (h : (fr.mask m).get i = some v) : fr.get i = some v := by
  induction fr generalizing m i with
  | nil => exact h
  | cons x l ih =>
    cases i with
    | zero =>
      simp only [Fr.mask, Fr.get] at h ⊢
      split at h
      · simp at h
      · exact h
    | succ i => exact ih h
theorem FrRel.mask {fr : Fr} {tmps : Array Value} (h : FrRel fr tmps) (m : Nat) : FrRel (fr.mask m) tmps :=
  ⟨by rw [Fr.length_mask]; exact h.1, fun i v e => h.2 i v (Fr.get_mask e)⟩
theorem Fr.get_none {fr : Fr} {d : Nat} (h : fr.length ≤ d) : fr.get d = none := by
  induction fr generalizing d with
  | nil => rfl
  | cons x l ih =>
    cases d with
    | zero => simp at h
    | succ d => exact ih (by simpa using h)
theorem FrRel.set {fr : Fr} {tmps : Array Value} (h : FrRel fr tmps) (d : Nat) (v : Value) : FrRel (fr.set d v) (tmps.setIfInBounds d v) := by
  refine ⟨by rw [Fr.length_set]; simpa using h.1, fun i u e => ?_⟩
  rw [Fr.get_set] at e
  rw [Array.getElem?_setIfInBounds]
  by_cases hd : i = d
  · subst hd
    rcases Nat.lt_or_ge i fr.length with hlt | hge
    · rw [if_pos ⟨rfl, hlt⟩] at e
      rw [if_pos rfl, if_pos (by have := h.1; omega)]; exact e
    · rw [if_neg (by omega), Fr.get_none hge] at e; simp at e
  · rw [if_neg (by omega)] at e
    rw [if_neg (by omega)]; exact h.2 i u e
theorem FrRel.put {fr : Fr} {a : Act} (h : FrRel fr a.tmps) (d : Option Tmp) (v : Value) : FrRel (fr.put d v) (a.put d v).tmps := by
  cases d with
  | none => exact h
  | some d => exact h.set d v
theorem FrRel.ev {fr : Fr} {a : Act} (h : FrRel fr a.tmps) {x : Operand} {v : Value} (e : fr.ev x = some v) : a.eval x = v := by
  cases x with
  | tmp t => have := h.2 t v e; simp [Act.eval, Array.getD_eq_getD_getElem?, this]
  | const u => simpa [Fr.ev, Act.eval] using e
  | global g => simpa [Fr.ev, Act.eval] using e
  | func g => simpa [Fr.ev, Act.eval] using e

/-- A test: on a known Bool it goes one way. -/
def br (b : Bool) (p q : Prop) : Prop := match b with | true => p | false => q
theorem br_iff (b : Bool) (p q : Prop) : br b p q ↔ (b = true → p) ∧ (b = false → q) := by cases b <;> simp [br]
theorem br_true {b : Bool} {p q : Prop} (hb : b = true) (h : p) : br b p q := by subst hb; exact h
theorem br_false {b : Bool} {p q : Prop} (hb : b = false) (h : q) : br b p q := by subst hb; exact h

#print axioms hwp_sound
end Go.HW

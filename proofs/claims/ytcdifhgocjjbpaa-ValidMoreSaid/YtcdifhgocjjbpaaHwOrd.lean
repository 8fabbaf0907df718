/- Drawn regions: one walk in a good order serves every order that the tape may pick. -/
import Derived.Test.YtcdifhgocjjbpaaHwSound2
import Derived.Orders
import Derived.OrdersIn
set_option linter.unusedVariables false
set_option linter.unusedSimpArgs false
namespace Go.HW
open Go

def nth {α : Type} : List α → Nat → Option α
  | [], _ => none
  | x :: _, 0 => some x
  | _ :: l, n + 1 => nth l n
theorem nth_eq {α : Type} (l : List α) (i : Nat) : nth l i = l[i]? := by
  induction l generalizing i with
  | nil => rfl
  | cons x l ih => cases i <;> simp [nth, ih]

/-- An extract out of what an iterator handed over (its parts' types stand at the extract alone). -/
def rawExtract (ops : List Oper) (o : Oper) : Bool :=
  match o.op with
  | .extract (.tmp t) _ => ops.any fun o' => match o'.op, o'.dst with
    | .entry _, some d => d == t
    | _, _ => false
  | _ => false
def castK (P : Program) (ops : List Oper) (o : Oper) (K : Value → Heap → Prop) : Value → Heap → Prop :=
  match rawExtract ops o with
  | true => fun v h => typed (shapeOf P o.type) (fun v => K v h) v
  | false => K
def opX (P : Program) (ops : List Oper) (ρ : Operand → Value) (o : Oper) (K : Value → Heap → Prop) (h : Heap) : Prop := opK P ρ o (castK P ops o K) h
def evOp (P : Program) (ops : List Oper) (o : Oper) (fr : Fr) (K : Fr → Heap → Prop) (h : Heap) : Prop :=
  match opsOf o with
  | none => False
  | some l => match allKnown fr l with
    | true => opX P ops fr.rho o (fun v h => K (fr.put o.dst v) h) h
    | false => False
def evOne (P : Program) (ops : List Oper) (o : Oper) (fr : Fr) (K : Fr → Heap → Prop) (h : Heap) : Prop :=
  match o.guard with
  | none => evOp P ops o fr K h
  | some (j, want) => match (nth ops j).bind (·.dst) with
    | none => False
    | some d => match fr.get d with
      | some (.bool b) => br b
          (match want with | true => evOp P ops o (fr.set d (.bool true)) K h | false => K ((fr.set d (.bool true)).put o.dst undef) h)
          (match want with | false => evOp P ops o (fr.set d (.bool false)) K h | true => K ((fr.set d (.bool false)).put o.dst undef) h)
      | some _ => K (fr.put o.dst undef) h
      | none => False
def evIdx (P : Program) (ops : List Oper) : List Nat → Fr → (Fr → Heap → Prop) → Heap → Prop
  | [], fr, K, h => K fr h
  | i :: l, fr, K, h => match nth ops i with
    | none => False
    | some o => evOne P ops o fr (fun fr' h' => evIdx P ops l fr' K h') h

/-! ### Three kinds of operations -/
/-- It yields one value, whatever the heap; or it fails, whatever the heap. -/
def DetP {α : Type} (F : (α → Heap → Prop) → Heap → Prop) : Prop := (∀ K h, ¬ F K h) ∨ ∃ v, ∀ K h, F K h ↔ K v h
/-- It yields one value in a heap, and leaves the heap. -/
def DetR {α : Type} (F : (α → Heap → Prop) → Heap → Prop) : Prop := ∀ h, (∀ K, ¬ F K h) ∨ ∃ v, ∀ K, F K h ↔ K v h
theorem DetP.toR {α : Type} {F : (α → Heap → Prop) → Heap → Prop} (h : DetP F) : DetR F := by
  intro g
  rcases h with h | ⟨v, h⟩
  · exact .inl fun K => h K g
  · exact .inr ⟨v, fun K => h K g⟩

section
variable {α β : Type} {P : Program}
theorem DetP.pure (a : α) : DetP (hwp P (Pure.pure a : Sem α)) := .inr ⟨a, fun _ _ => Iff.rfl⟩
theorem DetP.halt (x : Halt) : DetP (hwp P (Sem.halt x : Sem α)) := .inl fun _ _ => id
theorem DetP.program : DetP (hwp P Go.program) := .inr ⟨P, fun _ _ => Iff.rfl⟩
theorem DetP.bind {s : Sem α} {f : α → Sem β} (hs : DetP (hwp P s)) (hf : ∀ a, DetP (hwp P (f a))) : DetP (hwp P (s >>= f)) := by
  rcases hs with hs | ⟨v, hs⟩
  · exact .inl fun K h H => hs _ _ ((hwp_bind' _ _ _ _).1 H)
  · rcases hf v with hf | ⟨u, hf⟩
    · exact .inl fun K h H => hf K h ((hs _ _).1 ((hwp_bind' _ _ _ _).1 H))
    · exact .inr ⟨u, fun K h => by rw [hwp_bind', hs, hf]⟩
theorem DetP.ite {c : Prop} [Decidable c] {s t : Sem α} (hs : DetP (hwp P s)) (ht : DetP (hwp P t)) : DetP (hwp P (if c then s else t)) := by split <;> assumption
theorem DetP.fails {s : Sem α} (h : ∀ K h, ¬ hwp P s K h) : DetP (hwp P s) := .inl h
theorem fails_bind_right {s : Sem α} {f : α → Sem β} (h : ∀ a K h, ¬ hwp P (f a) K h) : ∀ K g, ¬ hwp P (s >>= f) K g := by
  intro K g H
  have H := (hwp_bind' _ _ _ _).1 H
  have key : ∀ (s : Sem α) h, ¬ hwp P s (fun a h => hwp P (f a) K h) h := by
    intro s
    induction s with
    | pure a => exact fun g => h a K g
    | load m a k ih => rintro g ⟨v, _, H⟩; exact ih v g H
    | store m a v k ih => rintro g ⟨_, _, _, H⟩; exact ih _ H
    | new o k ih => exact fun g H => ih _ _ H
    | shape r k ih => exact fun g H => ih _ _ H
    | freeze a n k ih => exact fun g H => ih _ H
    | frozen a k ih => exact fun g H => ih _ _ H
    | getObj r k ih => rintro g ⟨o, _, _, H⟩; exact ih o g H
    | setObj r o k ih => rintro g ⟨_, H⟩; exact ih _ H
    | choose q k ih =>
      intro g H
      simp only [hwp] at H
      split at H
      · exact ih _ _ H
      · exact ih _ _ (H 0)
    | sys c k ih => exact fun g H => H
    | program k ih => exact fun g H => ih _ _ H
    | mark m k ih => exact fun g H => ih _ H
    | halt x => exact fun g H => H
  exact key s g H
theorem DetP.underlying (t : TypeId) : DetP (hwp P (Go.underlying t)) := by
  unfold Go.underlying
  refine DetP.bind DetP.program fun p => ?_
  split
  · exact DetP.pure _
  · exact DetP.halt _
theorem DetP.typeInfo (t : TypeId) : DetP (hwp P (Go.typeInfo t)) := by
  unfold Go.typeInfo
  refine DetP.bind DetP.program fun p => ?_
  split
  · exact DetP.pure _
  · exact DetP.halt _
theorem DetP.sizeOf (t : TypeId) : DetP (hwp P (Go.sizeOf t)) := DetP.bind (DetP.typeInfo t) fun _ => DetP.pure _
theorem DetP.asIntOf (v : Value) : DetP (hwp P (Go.asIntOf v)) := by
  unfold Go.asIntOf
  split
  · exact DetP.pure _
  · exact DetP.halt _
  · exact DetP.halt _
theorem panic_fails (e : RuntimeError) : ∀ K h, ¬ hwp P (Go.runtimePanic e : Sem α) K h := by
  unfold Go.runtimePanic
  refine fails_bind_right fun p => ?_
  cases e <;> first
    | exact fun _ _ h => h
    | (refine fails_bind_right fun _ => ?_; first | exact fun _ _ h => h | (refine fails_bind_right fun _ => ?_; exact fun _ _ h => h))
theorem bounds_fails (k : IntKind) (x y : Int) (c : BoundsCode) : ∀ K h, ¬ hwp P (Go.boundsPanic k x y c : Sem α) K h := by
  unfold Go.boundsPanic
  dsimp only
  split
  · exact fails_bind_right fun b => panic_fails _
  · exact fails_bind_right fun b => panic_fails _
theorem DetP.sliceBound (x : Value) (y : Nat) (c : BoundsCode) : DetP (hwp P (Instr.sliceBound x y c)) := by
  unfold Instr.sliceBound
  refine DetP.bind (DetP.asIntOf x) fun p => ?_
  exact DetP.ite (DetP.pure _) (DetP.fails (bounds_fails _ _ _ _))
theorem DetP.sliceBounds (b : Bool) (l c : Nat) (lo hi mx : Option Value) : DetP (hwp P (Instr.sliceBounds b l c lo hi mx)) := by
  unfold Instr.sliceBounds
  dsimp only
  have k3 : ∀ (m h : Nat), DetP (hwp P (match lo with
      | some v => do let l ← Instr.sliceBound v h (if mx.isSome = true then BoundsCode.slice3C else BoundsCode.sliceB); Pure.pure (l, h, m)
      | none => do let l ← Pure.pure 0; Pure.pure (l, h, m))) := by
    intro m h
    cases lo with
    | some v => exact DetP.bind (DetP.sliceBound _ _ _) fun _ => DetP.pure _
    | none => exact DetP.bind (DetP.pure _) fun _ => DetP.pure _
  cases mx with
  | some v =>
    refine DetP.bind (DetP.sliceBound _ _ _) fun m => ?_
    cases hi with
    | some u => exact DetP.bind (DetP.sliceBound _ _ _) fun h => k3 m h
    | none => exact DetP.bind (DetP.halt _) fun h => k3 m h
  | none =>
    refine DetP.bind (DetP.pure _) fun m => ?_
    cases hi with
    | some u => exact DetP.bind (DetP.sliceBound _ _ _) fun h => k3 m h
    | none => exact DetP.bind (DetP.pure _) fun h => k3 m h
theorem DetP.asAddr (v : Value) : DetP (hwp P (Go.asAddr v)) := by
  unfold Go.asAddr
  split
  · exact DetP.pure _
  · exact DetP.fails (panic_fails _)
  · exact DetP.halt _
theorem DetP.sureAddr (v : Value) : DetP (hwp P (Instr.sureAddr v)) := by
  unfold Instr.sureAddr
  split
  · exact DetP.pure _
  · exact DetP.halt _
theorem DetP.slice (t : TypeId) (x : Value) (lo hi mx : Option Value) : DetP (hwp P (Instr.slice t x lo hi mx)) := by
  unfold Instr.slice
  refine DetP.bind (DetP.underlying t) fun d => ?_
  split
  · dsimp only
    split
    · exact DetP.bind (DetP.halt _) fun _ => DetP.bind (DetP.sliceBounds _ _ _ _ _ _) fun _ => DetP.pure _
    · exact DetP.bind (DetP.sliceBounds _ _ _ _ _ _) fun _ => DetP.pure _
  · exact DetP.bind (DetP.sliceBounds _ _ _ _ _ _) fun _ => DetP.bind (DetP.sizeOf _) fun _ => DetP.pure _
  · refine DetP.bind (DetP.asAddr _) fun a => DetP.bind (DetP.underlying _) fun d => ?_
    split
    · exact DetP.bind (DetP.sliceBounds _ _ _ _ _ _) fun _ => DetP.bind (DetP.sizeOf _) fun _ => DetP.pure _
    · exact DetP.halt _
  · exact DetP.halt _
theorem DetP.sliceAt (t : TypeId) (x : Value) (lo hi mx : Option Value) : DetP (hwp P (Instr.sliceAt t x lo hi mx)) := by
  unfold Instr.sliceAt
  refine DetP.bind (DetP.underlying t) fun d => ?_
  split
  · exact DetP.bind (DetP.sureAddr _) fun a => DetP.bind (DetP.sliceBounds _ _ _ _ _ _) fun _ => DetP.bind (DetP.sizeOf _) fun _ => DetP.pure _
  · exact DetP.slice _ _ _ _ _
theorem DetP.indexAt (t : TypeId) (x i : Value) : DetP (hwp P (Instr.indexAt t x i)) := by
  unfold Instr.indexAt
  refine DetP.bind (DetP.asIntOf i) fun p => DetP.bind (DetP.underlying t) fun d => ?_
  dsimp only
  have fin : ∀ (base : Option Addr) (len : Nat) (elem : TypeId) (tiny : Bool), DetP (hwp P (match base with
      | some a => if 0 ≤ p.2 ∧ p.2 < (len : Int) then do
          let z ← Go.sizeOf elem
          Pure.pure (Value.pointer (some (a.add (p.2.toNat * z))))
        else if tiny = true then
          unsupported (.noEntry "op/indexAddr.an index out of range at an array of length 0 or 1 (ledger 616)")
        else boundsPanic p.1 p.2 len .index
      | none => boundsPanic p.1 p.2 0 .index)) := by
    intro base len elem tiny
    cases base with
    | some a => exact DetP.ite (DetP.bind (DetP.sizeOf _) fun _ => DetP.pure _) (DetP.ite (DetP.halt _) (DetP.fails (bounds_fails _ _ _ _)))
    | none => exact DetP.fails (bounds_fails _ _ _ _)
  split
  · exact DetP.bind (DetP.sureAddr _) fun a => DetP.bind (DetP.pure _) fun q => DetP.bind (DetP.underlying t) fun d' => fin _ _ _ _
  · exact DetP.bind (DetP.pure _) fun q => DetP.bind (DetP.underlying t) fun d' => fin _ _ _ _
  · exact DetP.bind (DetP.halt _) fun q => DetP.bind (DetP.underlying t) fun d' => fin _ _ _ _
theorem DetP.part (t : TypeId) (cs : Array Value) (off : Nat) : DetP (hwp P (Go.part t cs off)) := by
  unfold Go.part Go.isAgg
  refine DetP.bind (DetP.bind (DetP.underlying t) fun d => by split <;> exact DetP.pure _) fun b => DetP.ite (DetP.bind (DetP.sizeOf _) fun _ => DetP.pure _) ?_
  split
  · exact DetP.pure _
  · exact DetP.halt _
theorem DetP.index (t : TypeId) (x i : Value) : DetP (hwp P (Instr.index t x i)) := by
  unfold Instr.index
  refine DetP.bind (DetP.asIntOf i) fun p => DetP.bind (DetP.underlying t) fun d => ?_
  split
  · exact DetP.ite (DetP.bind (DetP.sizeOf _) fun _ => DetP.part _ _ _) (DetP.fails (bounds_fails _ _ _ _))
  · split
    · exact DetP.pure _
    · exact DetP.fails (bounds_fails _ _ _ _)
  · exact DetP.halt _
theorem DetP.field (t : TypeId) (x : Value) (f : Nat) : DetP (hwp P (Instr.field t x f)) := by
  unfold Instr.field
  refine DetP.bind (DetP.underlying t) fun d => ?_
  split
  · split
    · refine DetP.bind ?_ fun cs => DetP.part _ _ _
      unfold asAgg
      split
      · exact DetP.pure _
      · exact DetP.halt _
    · exact DetP.halt _
  · exact DetP.halt _
end

/-! ### Shapes: the value is the one that is there -/
theorem exLeaf_mono {l : Leaf} {F G : Value → Prop} (hfg : ∀ v, F v → G v) (h : exLeaf l F) : exLeaf l G := by
  cases l <;> simp only [exLeaf] at h ⊢
  case sl => obtain ⟨a, n, c, h⟩ := h; exact ⟨a, n, c, hfg _ h⟩
  all_goals (obtain ⟨x, h⟩ := h; exact ⟨x, hfg _ h⟩)
theorem exLeaves_mono {ls : List Leaf} : ∀ {acc : List Value} {F G : List Value → Prop}, (∀ v, F v → G v) → exLeaves ls acc F → exLeaves ls acc G := by
  induction ls with
  | nil => exact fun hfg h => hfg _ h
  | cons l ls ih => exact fun hfg h => exLeaf_mono (fun v hv => ih hfg hv) h
theorem ex1_mono {s : Shape} {F G : Value → Prop} (hfg : ∀ v, F v → G v) (h : ex1 s F) : ex1 s G := by
  cases s with
  | leaf l => exact exLeaf_mono hfg h
  | agg ls => exact exLeaves_mono (fun v hv => hfg _ hv) h
  | big n => obtain ⟨cs, h⟩ := h; exact ⟨cs, hfg _ h⟩
  | tup ss => obtain ⟨v, h⟩ := h; exact ⟨v, hfg _ h⟩
  | next =>
    rcases h with h | ⟨i, c, h⟩
    · exact .inl (hfg _ h)
    · exact .inr ⟨i, c, hfg _ h⟩
  | flag => obtain ⟨b, r, h⟩ := h; exact ⟨b, r, hfg _ h⟩
  | any => obtain ⟨v, h⟩ := h; exact ⟨v, hfg _ h⟩
theorem exTup_mono {ss : List Shape} : ∀ {acc : List Value} {F G : List Value → Prop}, (∀ v, F v → G v) → exTup ss acc F → exTup ss acc G := by
  induction ss with
  | nil => exact fun hfg h => hfg _ h
  | cons s ss ih => exact fun hfg h => ex1_mono (fun v hv => ih hfg hv) h
theorem exV_mono {s : Shape} {F G : Value → Prop} (hfg : ∀ v, F v → G v) (h : exV s F) : exV s G := by
  cases s with
  | tup ss => exact exTup_mono (fun v hv => hfg _ hv) h
  | leaf l => exact ex1_mono (s := .leaf l) hfg h
  | agg ls => exact ex1_mono (s := .agg ls) hfg h
  | big n => exact ex1_mono (s := .big n) hfg h
  | next => exact ex1_mono (s := .next) hfg h
  | flag => exact ex1_mono (s := .flag) hfg h
  | any => exact ex1_mono (s := .any) hfg h
theorem typed_iff {s : Shape} {K : Value → Prop} {v : Value} : typed s K v ↔ typed s (fun _ => True) v ∧ K v := by
  by_cases hs : s = .any
  · subst hs; exact ⟨fun h => ⟨trivial, h⟩, fun h => h.2⟩
  · rw [typed_def hs, typed_def hs]
    constructor
    · intro h
      exact ⟨exV_mono (G := fun u => v = u ∧ True) (fun u (hu : v = u ∧ K u) => ⟨hu.1, trivial⟩) h, by obtain ⟨u, rfl, h⟩ := exV_elim h; exact h⟩
    · rintro ⟨h, k⟩
      exact exV_mono (G := fun u => v = u ∧ K u) (fun u (hu : v = u ∧ True) => ⟨hu.1, hu.1 ▸ k⟩) h

theorem DetP.typed {P : Program} {s : Sem Value} {sh : Shape} (hs : DetP (hwp P s)) : DetP fun (K : Value → Heap → Prop) h => hwp P s (fun v h => Go.HW.typed sh (fun v => K v h) v) h := by
  rcases hs with hs | ⟨v, hs⟩
  · exact .inl fun K h => hs _ h
  · by_cases ht : Go.HW.typed sh (fun _ => True) v
    · refine .inr ⟨v, fun K h => ?_⟩
      show hwp P s _ h ↔ _
      rw [hs, typed_iff]; exact ⟨And.right, fun k => ⟨ht, k⟩⟩
    · refine .inl fun K h (H : hwp P s _ h) => ?_
      rw [hs, typed_iff] at H; exact ht H.1

theorem rdCells_unique {h : Heap} {a : Addr} : ∀ {l l' : List Value} {i : Nat}, l.length = l'.length → rdCells h a i l → rdCells h a i l' → l = l' := by
  intro l
  induction l with
  | nil => intro l' i hl _ _; cases l' with | nil => rfl | cons => simp at hl
  | cons v l ih =>
    intro l' i hl h1 h2
    cases l' with
    | nil => simp at hl
    | cons u l' =>
      obtain ⟨e1, h1⟩ := h1
      obtain ⟨e2, h2⟩ := h2
      rw [e1] at e2
      cases e2
      rw [ih (by simpa using hl) h1 h2]
theorem cell_push {h : Heap} {a : Addr} {v : Value} (e : cellH h a = some v) (o : Obj) : cellH (h.push o) a = some v := by
  unfold cellH wOf World.cell? at *
  simp only at *
  rw [Array.getElem?_push]
  split at e
  · rename_i c t f hc
    have hlt : a.block < h.size := (Array.getElem?_eq_some_iff.1 hc).1
    rw [if_neg (by omega), hc]; exact e
  · simp at e
theorem rdCells_push {h : Heap} {a : Addr} (o : Obj) : ∀ {l : List Value} {i : Nat}, rdCells h a i l → rdCells (h.push o) a i l := by
  intro l
  induction l with
  | nil => exact fun _ => trivial
  | cons v l ih => exact fun ⟨e, h⟩ => ⟨cell_push e o, ih h⟩

/-- A read: one value in a heap; and the same behind a new block. -/
def Reads (F : (Value → Heap → Prop) → Heap → Prop) : Prop := ∀ h, (∀ K, ¬ F K h) ∨ ∃ v, (∀ K, F K h ↔ K v h) ∧ ∀ o K, F K (h.push o) ↔ K v (h.push o)
theorem DetP.reads {F : (Value → Heap → Prop) → Heap → Prop} (h : DetP F) : Reads F := by
  intro g
  rcases h with h | ⟨v, h⟩
  · exact .inl fun K => h K g
  · exact .inr ⟨v, fun K => h K g, fun o K => h K _⟩

theorem ldAt_reads (s : Shape) (a : Addr) : Reads (ldAt s a) := by
  intro h
  cases s with
  | leaf l =>
    by_cases hx : ∃ v, exLeaf l (fun u => cellH h a = some u ∧ u = v)
    · obtain ⟨v, hv⟩ := hx
      obtain ⟨u, hu, rfl⟩ := exLeaf_elim hv
      refine .inr ⟨u, fun K => ⟨fun H => ?_, fun k => exLeaf_mono (fun w (hw : cellH h a = some w ∧ w = u) => ⟨hw.1, hw.2 ▸ k⟩) hv⟩, fun o K => ⟨fun H => ?_, fun k => exLeaf_mono (fun w (hw : cellH h a = some w ∧ w = u) => ⟨cell_push hw.1 o, hw.2 ▸ k⟩) hv⟩⟩
      · obtain ⟨w, hw, k⟩ := exLeaf_elim H; rw [hu] at hw; cases hw; exact k
      · obtain ⟨w, hw, k⟩ := exLeaf_elim H; rw [cell_push hu o] at hw; cases hw; exact k
    · refine .inl fun K H => ?_
      obtain ⟨u, hu, k⟩ := exLeaf_elim H
      exact hx ⟨u, exLeaf_mono (fun w (hw : cellH h a = some w ∧ K w h) => ⟨hw.1, by rw [hu] at hw; exact (Option.some.inj hw.1).symm⟩) H⟩
  | agg ls =>
    by_cases hx : ∃ vs, exLeaves ls [] (fun us => rdCells h a 0 us ∧ us = vs)
    · obtain ⟨vs, hv⟩ := hx
      obtain ⟨us, hn, hu, rfl⟩ := exLeaves_elim hv
      refine .inr ⟨.agg us.toArray, fun K => ⟨fun H => ?_, fun k => exLeaves_mono (fun w (hw : rdCells h a 0 w ∧ w = us) => ⟨hw.1, hw.2 ▸ k⟩) hv⟩, fun o K => ⟨fun H => ?_, fun k => exLeaves_mono (fun w (hw : rdCells h a 0 w ∧ w = us) => ⟨rdCells_push o hw.1, hw.2 ▸ k⟩) hv⟩⟩
      · obtain ⟨ws, hm, hw, k⟩ := exLeaves_elim H; rw [rdCells_unique (by omega) hu hw]; exact k
      · obtain ⟨ws, hm, hw, k⟩ := exLeaves_elim H; rw [rdCells_unique (by omega) (rdCells_push o hu) hw]; exact k
    · refine .inl fun K H => ?_
      obtain ⟨us, hn, hu, k⟩ := exLeaves_elim H
      refine hx ⟨us, ?_⟩
      have hlen : ∀ {ls : List Leaf} {acc : List Value} {F : List Value → Prop}, exLeaves ls acc F → exLeaves ls acc (fun w => w.length = acc.length + ls.length ∧ F w) := by
        intro ls
        induction ls with
        | nil => exact fun h => ⟨by simp, h⟩
        | cons l ls ih => exact fun h => exLeaf_mono (fun v hv => exLeaves_mono (fun w hw => ⟨by simp at hw ⊢; omega, hw.2⟩) (ih hv)) h
      exact exLeaves_mono (fun w hw => ⟨hw.2.1, rdCells_unique (by omega) hw.2.1 hu⟩) (hlen H)
  | big n =>
    by_cases hx : ∃ vs : List Value, vs.length = n ∧ rdCells h a 0 vs
    · obtain ⟨vs, hn, hv⟩ := hx
      refine .inr ⟨.agg vs.toArray, fun K => ⟨fun H => ?_, fun k => ⟨vs, hn, hv, k⟩⟩, fun o K => ⟨fun H => ?_, fun k => ⟨vs, hn, rdCells_push o hv, k⟩⟩⟩
      · obtain ⟨ws, hm, hw, k⟩ := H; rw [rdCells_unique (by omega) hv hw]; exact k
      · obtain ⟨ws, hm, hw, k⟩ := H; rw [rdCells_unique (by omega) (rdCells_push o hv) hw]; exact k
    · exact .inl fun K ⟨vs, hn, hv, _⟩ => hx ⟨vs, hn, hv⟩
  | tup ss => exact .inl fun K H => H
  | next => exact .inl fun K H => H
  | flag => exact .inl fun K H => H
  | any => exact .inl fun K H => H

/-- An allocation: one value, one new block. -/
def News (F : (Value → Heap → Prop) → Heap → Prop) : Prop := ∀ h, (∀ K, ¬ F K h) ∨ ∃ v o, ∀ K, F K h ↔ K v (h.push o)

/-! ### The kinds, by the text -/
def isNilConst : Operand → Bool
  | .const (.pointer none) | .const (.slice none _ _) | .const (.map none) => true
  | _ => false
/-- 0: looks at no memory; 1: reads; 2: a new block; 9: anything. -/
def cls (P : Program) (o : Oper) : Nat :=
  match o.op with
  | .move _ | .assign _ | .pick .. | .build .. | .unOp .. | .makeInterface .. | .makeFunc .. | .extract .. | .nilCheck _ | .slice .. | .indexAddr .. | .index .. | .field .. | .fieldAddr .. => 0
  | .convert s d _ => match P.underlying s, P.underlying d with
    | some (.int _), some (.int _) | some .string, some .string => 0
    | _, _ => 9
  | .binOp op t _ _ _ => match P.underlying t with
    | some (.int _) | some .bool | some .string => 0
    | some (.struct _) => match plainS P t with
      | true => match op with
        | .eql | .neq => 0
        | _ => 9
      | false => 9
    | _ => 9
  | .call c => match c.callee with
    | .builtin .len => match (c.argTypes[0]?).bind (P.underlying ·) with
      | some (.slice _) | some .string | some (.array ..) => 0
      | _ => 9
    | .builtin .min => match P.underlying o.type with
      | some (.int _) => 0
      | _ => 9
    | .builtin .max => match P.underlying o.type with
      | some (.int _) => 0
      | _ => 9
    | .builtin .cap => match (c.argTypes[0]?).bind (P.underlying ·) with
      | some (.slice _) => 0
      | _ => 9
    | .value (.func f) => match callable P f && pureB P 4 f with
      | true => 0
      | false => 9
    | _ => 9
  | .load .. => 1
  | .alloc _ | .box .. | .buildSlice .. => 2
  | _ => 9

theorem opK_det {P : Program} {ρ : Operand → Value} {o : Oper} (h : fastOp P ρ o = .no → DetP (heavyOp P ρ o)) : DetP (opK P ρ o) := by
  cases e : fastOp P ρ o with
  | val v => exact .inr ⟨v, fun K h => by simp only [opK, e]⟩
  | chk b v =>
    cases b with
    | true => exact .inr ⟨v, fun K h => by simp only [opK, e, br]⟩
    | false => exact .inl fun K h H => by simp only [opK, e, br] at H
  | no =>
    have : opK P ρ o = heavyOp P ρ o := by funext K h; simp only [opK, e]
    rw [this]; exact h e
theorem must_no {x : Option Value} (h : must x = .no) : False := by cases x <;> simp [must] at h
theorem runN_split {P : Program} : ∀ (n k : Nat) {m m1 : Machine}, runN P n m = .next m1 → runN P (n + k) m = runN P k m1 := by
  intro n
  induction n with
  | zero => intro k m m1 h; simp only [runN] at h; cases h; rw [Nat.zero_add]
  | succ n ih =>
    intro k m m1 h
    rw [show n + 1 + k = (n + k) + 1 by omega]
    have e : ∀ j, runN P (j + 1) m = (match step P m with | .next m => runN P j m | e => e) := fun _ => rfl
    rw [e] at h ⊢
    cases hm : step P m with
    | next m2 => rw [hm] at h; exact ih k h
    | ended x w => rw [hm] at h; cases h
theorem PureAt.uniq {P : Program} {f : FuncId} {args : List Value} {u v : Value} (hi : P.inits.idxOf? f = none) (hu : PureAt P f args u) (hv : PureAt P f args v) : u = v := by
  obtain ⟨e1, w1, fr1, ⟨u', rfl, _, hu', _⟩, c1, f1, l1⟩ := hu #[] (wOf #[]) rfl []
  obtain ⟨e2, w2, fr2, ⟨v', rfl, _, hv', _⟩, c2, f2, l2⟩ := hv #[] (wOf #[]) rfl []
  subst hu' hv'
  obtain ⟨n1, h1⟩ := c1
  obtain ⟨n2, h2⟩ := c2
  have s1 := step_leave_done l1 (by rw [f1]; exact hi)
  have s2 := step_leave_done l2 (by rw [f2]; exact hi)
  have no : ∀ {m m1 m2 : Machine} {a b : Nat} {u : Value} {w : World}, step P m1 = .ended (.done u) w → runN P a m = .next m1 → runN P b m = .next m2 → b ≤ a := by
    intro m m1 m2 a b x w hs ha hb
    rcases Nat.lt_or_ge a b with hlt | hge
    · exfalso
      have := runN_split a (b - a) ha
      rw [show a + (b - a) = b by omega, hb] at this
      obtain ⟨k, hk⟩ : ∃ k, b - a = k + 1 := ⟨b - a - 1, by omega⟩
      rw [hk] at this
      simp only [runN, hs] at this
      cases this
    · exact hge
  have hn : n1 = n2 := Nat.le_antisymm (no s2 h2 h1) (no s1 h1 h2)
  subst hn
  rw [h1] at h2
  injection h2 with h2
  rw [h2, s2] at s1
  injection s1 with s1 _
  injection s1 with s1
  exact s1.symm
theorem pureB_init {P : Program} {d : Nat} {f : FuncId} (h : pureB P d f = true) : P.inits.idxOf? f = none := by
  cases d with
  | zero => simp [pureB] at h
  | succ d =>
    simp only [pureB] at h
    split at h
    · split at h
      · simp only [Bool.and_eq_true] at h; simpa using h.2
      · simp at h
    · simp at h
theorem DetP.pureCall {P : Program} {f : FuncId} {args : List Value} {sh : Shape} (hi : P.inits.idxOf? f = none) : DetP fun (K : Value → Heap → Prop) h => ∃ v, PureAt P f args v ∧ Go.HW.typed sh (fun v => K v h) v := by
  by_cases hx : ∃ v, PureAt P f args v ∧ Go.HW.typed sh (fun _ => True) v
  · obtain ⟨v, hv, ht⟩ := hx
    refine .inr ⟨v, fun K h => ⟨fun ⟨u, hu, hk⟩ => ?_, fun hk => ⟨v, hv, typed_iff.2 ⟨ht, hk⟩⟩⟩⟩
    rw [PureAt.uniq hi hv hu]; exact typed_elim hk
  · exact .inl fun K h ⟨v, hv, hk⟩ => hx ⟨v, hv, (typed_iff.1 hk).1⟩

theorem cls0 {P : Program} {ρ : Operand → Value} {o : Oper} (hc : cls P o = 0) : DetP (opK P ρ o) := by
  refine opK_det fun hno => ?_
  obtain ⟨dst, op, ty, pos, af, g⟩ := o
  cases op <;> first | (simp [cls] at hc; done) | skip
  case move x => cases hno
  case assign x => cases hno
  case makeFunc f a b => cases hno
  case pick c a b =>
    exfalso
    simp only [fastOp] at hno
    split at hno
    · split at hno
      · cases hno
      · split at hno <;> cases hno
    · cases hno
  case build t ps => exact (must_no hno).elim
  case unOp op t x => exact (must_no hno).elim
  case makeInterface t x => exact (must_no hno).elim
  case extract x i => exact (must_no hno).elim
  case nilCheck x =>
    show DetP fun (K : Value → Heap → Prop) h => match ρ x with
      | .pointer p => nilc p fun a => K (.pointer (some a)) h
      | v => ∃ f a b, v = .func (.func f) a b ∧ K v h
    split
    · rename_i p hp
      cases p with
      | none => exact .inl fun K h e => e
      | some a => exact .inr ⟨.pointer (some a), fun K h => Iff.rfl⟩
    · by_cases hv : ∃ f a b, ρ x = .func (.func f) a b
      · obtain ⟨f, a, b, e⟩ := hv
        exact .inr ⟨ρ x, fun K h => ⟨fun ⟨_, _, _, _, k⟩ => k, fun k => ⟨f, a, b, e, k⟩⟩⟩
      · exact .inl fun K h ⟨f, a, b, e, _⟩ => hv ⟨f, a, b, e⟩
  case slice t x lo hi mx => exact DetP.typed (DetP.sliceAt _ _ _ _ _)
  case indexAddr t x i => exact DetP.typed (DetP.indexAt _ _ _)
  case index t x i => exact DetP.typed (DetP.index _ _ _)
  case field t x f => exact DetP.typed (DetP.field _ _ _)
  case fieldAddr t x f =>
    exfalso
    simp only [fastOp] at hno
    split at hno
    · exact must_no hno
    · cases hno
  case convert s d x =>
    exfalso
    simp only [cls] at hc
    simp only [fastOp] at hno
    split at hno
    · split at hno
      · exact must_no hno
      · cases hno
    · split at hno <;> cases hno
    · rename_i h1 h2
      split at hc
      · rename_i k1 k2 e1 e2; exact h1 _ _ e1 e2
      · rename_i e1 e2; exact h2 e1 e2
      · simp at hc
  case binOp op t x y yt =>
    exfalso
    simp only [cls] at hc
    simp only [fastOp, fastBin] at hno
    cases hu : P.underlying t with
    | none => simp [hu] at hc
    | some d =>
      rw [hu] at hno hc
      cases d <;> first | (simp at hc; done) | skip
      case bool => simp only at hno; split at hno <;> first | exact must_no hno | cases hno
      case int k => simp only at hno; split at hno <;> first | (cases hno; done) | exact must_no hno | (split at hno <;> cases hno)
      case string => simp only at hno; split at hno <;> cases hno
      case struct fs =>
        simp only at hno hc
        cases hp : plainS P t with
        | false => rw [hp] at hc; simp at hc
        | true =>
          rw [hp] at hno hc
          cases op <;> first | (simp at hc; done) | skip
          all_goals
            simp only [eqB] at hno
            split at hno <;> cases hno
  case call c =>
    obtain ⟨callee, args, at_⟩ := c
    cases callee with
    | value f =>
      cases f <;> first | (simp [cls] at hc; done) | skip
      rename_i f
      simp only [cls] at hc
      have hcp : callable P f = true ∧ pureB P 4 f = true := by
        cases hx : (callable P f && pureB P 4 f) with
        | true => simpa using hx
        | false => rw [hx] at hc; simp at hc
      have e : (heavyOp P ρ ⟨dst, .call ⟨.value (.func f), args, at_⟩, ty, pos, af, g⟩) = fun K h => ∃ v, PureAt P f (args.toList.map ρ) v ∧ Go.HW.typed (outShape P ⟨dst, .call ⟨.value (.func f), args, at_⟩, ty, pos, af, g⟩) (fun v => K v h) v := by
        funext K h; simp only [heavyOp, hcp.1, hcp.2]
      rw [e]; exact DetP.pureCall (pureB_init hcp.2)
    | invoke r m => simp [cls] at hc
    | builtin b =>
      cases b <;> first | (simp [cls] at hc; done) | skip
      all_goals
        exfalso
        simp only [cls] at hc
        simp only [fastOp] at hno
        split at hno <;> first | exact must_no hno | skip
        split at hc <;> first | (simp at hc; done) | simp_all

theorem cls1 {P : Program} {ρ : Operand → Value} {o : Oper} (hc : cls P o = 1) : Reads (opK P ρ o) := by
  obtain ⟨dst, op, ty, pos, af, g⟩ := o
  cases op <;> first
    | (simp [cls] at hc; done)
    | (simp only [cls] at hc; (repeat' split at hc) <;> simp at hc; done)
    | skip
  case load t x =>
    show Reads fun K h => match ρ x with
      | .pointer (some a) => ldAt (shape1 P t) a K h
      | _ => False
    split
    · exact ldAt_reads _ _
    · exact fun h => .inl fun K H => H

theorem News.typed {P : Program} {s : Sem Value} {sh : Shape} (hs : News (hwp P s)) : News fun (K : Value → Heap → Prop) h => hwp P s (fun v h => Go.HW.typed sh (fun v => K v h) v) h := by
  intro h
  rcases hs h with hs | ⟨v, o, hs⟩
  · exact .inl fun K => hs _
  · by_cases ht : Go.HW.typed sh (fun _ => True) v
    · refine .inr ⟨v, o, fun K => ?_⟩
      show hwp P s _ h ↔ _
      rw [hs, typed_iff]; exact ⟨And.right, fun k => ⟨ht, k⟩⟩
    · refine .inl fun K (H : hwp P s _ h) => ?_
      rw [hs, typed_iff] at H; exact ht H.1
theorem News.bind {α : Type} {P : Program} {s : Sem α} {f : α → Sem Value} (hs : DetP (hwp P s)) (hf : ∀ a, News (hwp P (f a))) : News (hwp P (s >>= f)) := by
  intro h
  rcases hs with hs | ⟨v, hs⟩
  · exact .inl fun K H => hs _ _ ((hwp_bind' _ _ _ _).1 H)
  · rcases hf v h with hf | ⟨u, o, hf⟩
    · exact .inl fun K H => hf K ((hs _ _).1 ((hwp_bind' _ _ _ _).1 H))
    · exact .inr ⟨u, o, fun K => by rw [hwp_bind', hs, hf]⟩
theorem DetP.zeroValue {P : Program} (t : TypeId) : DetP (hwp P (Go.zeroValue t)) := by
  unfold Go.zeroValue
  refine DetP.bind (DetP.typeInfo t) fun i => ?_
  split
  · exact DetP.pure _
  · exact DetP.halt _
theorem cls2 {P : Program} {ρ : Operand → Value} {o : Oper} (hc : cls P o = 2) : News (opK P ρ o) := by
  obtain ⟨dst, op, ty, pos, af, g⟩ := o
  cases op <;> first
    | (simp [cls] at hc; done)
    | (simp only [cls] at hc; (repeat' split at hc) <;> simp at hc; done)
    | skip
  case alloc t =>
    refine News.typed (s := Instr.alloc t true (.tuple #[])) ?_
    unfold Instr.alloc
    refine News.bind (DetP.zeroValue t) fun z => ?_
    intro h
    exact .inr ⟨_, _, fun K => Iff.rfl⟩
  case box t x =>
    show News fun (K : Value → Heap → Prop) h => hwp P (Instr.box t (ρ x)) (fun v h => Go.HW.typed .any (fun v => K v h) v) h
    refine News.typed ?_
    intro h
    exact .inr ⟨_, _, fun K => Iff.rfl⟩
  case buildSlice t n parts =>
    show News fun (K : Value → Heap → Prop) h => hwp P (Instr.buildSlice t n (parts.map fun (i, x) => (i, ρ x))) (fun v h => Go.HW.typed .any (fun v => K v h) v) h
    refine News.typed ?_
    unfold Instr.buildSlice
    refine News.bind (DetP.underlying t) fun u => ?_
    split
    · refine News.bind (DetP.sizeOf _) fun sz => ?_
      by_cases hb : n * sz > 2 ^ 24
      · simp only [if_pos hb]
        exact fun h => .inl fun K H => (hwp_bind' _ _ _ _).1 H
      · simp only [if_neg hb]
        by_cases hz : n * sz = 0
        · simp only [if_pos hz]
          refine News.bind (DetP.pure _) fun z => ?_
          split
          · intro h
            exact .inr ⟨_, _, fun K => Iff.rfl⟩
          · exact fun h => .inl fun K H => H
        · simp only [if_neg hz]
          refine News.bind (DetP.zeroValue _) fun _ => ?_
          refine News.bind (DetP.pure _) fun z => ?_
          split
          · intro h
            exact .inr ⟨_, _, fun K => Iff.rfl⟩
          · exact fun h => .inl fun K H => H
    · exact fun h => .inl fun K H => H

/-- What goes through comes somewhere. -/
theorem hwp_some {α : Type} {P : Program} (s : Sem α) : ∀ {K : α → Heap → Prop} {h : Heap}, hwp P s K h → ∃ a h', K a h' := by
  induction s with
  | pure a => exact fun H => ⟨_, _, H⟩
  | load m a k ih => rintro K h ⟨v, _, H⟩; exact ih v H
  | store m a v k ih => rintro K h ⟨_, _, _, H⟩; exact ih H
  | new o k ih => exact fun H => ih _ H
  | shape r k ih => exact fun H => ih _ H
  | freeze a n k ih => exact fun H => ih H
  | frozen a k ih => exact fun H => ih _ H
  | getObj r k ih => rintro K h ⟨o, _, _, H⟩; exact ih o H
  | setObj r o k ih => rintro K h ⟨_, H⟩; exact ih H
  | choose q k ih =>
    intro K h H
    simp only [hwp] at H
    split at H
    · exact ih _ H
    · exact ih _ (H 0)
  | sys c k ih => exact fun H => H.elim
  | program k ih => exact fun H => ih _ H
  | mark m k ih => exact fun H => ih H
  | halt x => exact fun H => H.elim
theorem SpecH.some {P : Program} {f : FuncId} {args : List Value} {h : Heap} {Q : Value → Heap → Prop} (H : SpecH P f args h Q) : ∃ v h', Q v h' := by
  obtain ⟨e, w', fr, ⟨v, he, hs, hq⟩, _⟩ := H (wOf h) rfl []
  exact ⟨v, _, hq⟩
theorem nextK_some {P : Program} {K : Value → Heap → Prop} {n : Next} {h : Heap} (H : nextK P K n h) : ∃ v h', K v h' := by
  cases n <;> first | exact H.elim | skip
  case value v => exact ⟨_, _, H⟩
  case skip => exact ⟨_, _, H⟩
  case enter f a => exact SpecH.some H
  case round l f t a b =>
    obtain ⟨e, w', ⟨v, he, hs, hq⟩, _⟩ := (H (wOf h) rfl).2 default [] (room_wide _)
    exact ⟨v, _, hq⟩
theorem opK_some {P : Program} {ρ : Operand → Value} (hρ : ∀ f, ρ (.func f) = .func (.func f) #[] #[]) {o : Oper} {K : Value → Heap → Prop} {h : Heap} (H : opK P ρ o K h) : ∃ v h', K v h' := by
  obtain ⟨n, h', H⟩ := hwp_some _ (opK_ok hρ H)
  exact nextK_some H

theorem ldAt_mono {s : Shape} {a : Addr} {K K' : Value → Heap → Prop} {h : Heap} (hk : ∀ v, K v h → K' v h) (H : ldAt s a K h) : ldAt s a K' h := by
  cases s with
  | leaf l => exact exLeaf_mono (G := fun v => cellH h a = some v ∧ K' v h) (fun v (hv : cellH h a = some v ∧ K v h) => ⟨hv.1, hk _ hv.2⟩) H
  | agg ls => exact exLeaves_mono (G := fun vs => rdCells h a 0 vs ∧ K' (.agg vs.toArray) h) (fun vs (hv : rdCells h a 0 vs ∧ K (.agg vs.toArray) h) => ⟨hv.1, hk _ hv.2⟩) H
  | big n => obtain ⟨cs, h1, h2, h3⟩ := H; exact ⟨cs, h1, h2, hk _ h3⟩
  | tup ss => exact H.elim
  | next => exact H.elim
  | flag => exact H.elim
  | any => exact H.elim
theorem wr_mono {a : Addr} {v : Value} {K K' : Heap → Prop} {h : Heap} (hk : ∀ h, K h → K' h) (H : wr a v K h) : wr a v K' h := ⟨H.1, H.2.1, H.2.2.1, hk _ H.2.2.2⟩
theorem wrCells_mono {a : Addr} {l : List Value} : ∀ {i : Nat} {K K' : Heap → Prop} {h : Heap}, (∀ h, K h → K' h) → wrCells a i l K h → wrCells a i l K' h := by
  induction l with
  | nil => exact fun hk H => hk _ H
  | cons v l ih => exact fun hk H => wr_mono (fun h hh => ih hk hh) H
theorem stAt_mono {n : Nat} {a : Addr} {v : Value} {K K' : Heap → Prop} {h : Heap} (hk : ∀ h, K h → K' h) (H : stAt n a v K h) : stAt n a v K' h := by
  unfold stAt at *
  split at H
  · split at H
    · exact wrCells_mono hk H
    · exact H.elim
  · split at H
    · exact wr_mono hk H
    · exact H.elim
theorem typed_mono {s : Shape} {v : Value} {K K' : Value → Prop} (hk : K v → K' v) (H : typed s K v) : typed s K' v := by
  rw [typed_iff] at H ⊢; exact ⟨H.1, hk H.2⟩
theorem nextK_mono {P : Program} {K K' : Value → Heap → Prop} {n : Next} {h : Heap} (hk : ∀ v h, K v h → K' v h) (H : nextK P K n h) : nextK P K' n h := by
  cases n <;> first | exact H.elim | exact hk _ _ H | exact SpecH.mono H hk | exact RSpec.mono H hk

theorem opK_mono {P : Program} {ρ : Operand → Value} {o : Oper} {K K' : Value → Heap → Prop} (hk : ∀ v h, K v h → K' v h) {h : Heap} (H : opK P ρ o K h) : opK P ρ o K' h := by
  unfold opK at *
  cases e : fastOp P ρ o with
  | val v => rw [e] at H; exact hk _ _ H
  | chk b v => rw [e] at H; cases b <;> first | exact H.elim | exact hk _ _ H
  | no =>
    rw [e] at H
    clear e
    have gen : ∀ {s : Option (Sem Value)} {u : Option (Sem Unit)} {sh : Shape}, (match s with
        | some s => hwp P s (fun v h => typed sh (fun v => K v h) v) h
        | none => match u with
          | some s => hwp P s (fun _ h => K undef h) h
          | none => False) → (match s with
        | some s => hwp P s (fun v h => typed sh (fun v => K' v h) v) h
        | none => match u with
          | some s => hwp P s (fun _ h => K' undef h) h
          | none => False) := by
      intro s u sh H
      cases s with
      | some s => exact hwp_mono s (fun v h ht => typed_mono (hk _ _) ht) H
      | none => cases u with
        | some s => exact hwp_mono s (fun v h ht => hk _ _ ht) H
        | none => exact H.elim
    have key : ∀ o : Oper, (∀ K h, heavyOp P ρ o K h = (match semV ρ o with
        | some s => hwp P s (fun v h => typed (outShape P o) (fun v => K v h) v) h
        | none => match semU ρ o with
          | some s => hwp P s (fun _ h => K undef h) h
          | none => False)) → heavyOp P ρ o K h → heavyOp P ρ o K' h := fun o e H => by rw [e] at H ⊢; exact gen H
    have nk : ∀ {s : Shape} {n : Next} {h : Heap}, nextK P (fun v h => typed s (fun v => K v h) v) n h → nextK P (fun v h => typed s (fun v => K' v h) v) n h :=
      fun hn => nextK_mono (fun v h ht => typed_mono (hk _ _) ht) hn
    have sp : ∀ {f : FuncId} {args : List Value} {s : Shape} {h : Heap}, SpecH P f args h (fun v h => typed s (fun v => K v h) v) → SpecH P f args h (fun v h => typed s (fun v => K' v h) v) :=
      fun H => H.mono fun v h ht => typed_mono (hk _ _) ht
    obtain ⟨dst, op, ty, pos, af, g⟩ := o
    replace H : heavyOp P ρ ⟨dst, op, ty, pos, af, g⟩ K h := H
    show heavyOp P ρ ⟨dst, op, ty, pos, af, g⟩ K' h
    cases op <;> first | exact key _ (fun _ _ => rfl) H | skip
    case load t x =>
      simp only [heavyOp] at H ⊢
      split at H
      · exact ldAt_mono (fun v => hk v _) H
      · exact H.elim
    case store t x v =>
      simp only [heavyOp] at H ⊢
      split at H
      · split at H
        · exact stAt_mono (fun h => hk _ h) H
        · exact H.elim
      · exact H.elim
    case nilCheck x =>
      simp only [heavyOp] at H ⊢
      split at H
      · rename_i p hp; cases p with | none => exact H | some a => exact hk _ _ H
      · obtain ⟨f, a, b, e, H⟩ := H
        exact ⟨f, a, b, e, hk _ _ H⟩
    case call c =>
      obtain ⟨callee, args, at_⟩ := c
      cases callee with
      | builtin b => exact key _ (fun _ _ => rfl) H
      | invoke r m => exact hwp_mono _ (fun n h hn => nk hn) H
      | value f =>
        cases f with
        | func f =>
          simp only [heavyOp] at H ⊢
          split
          · rename_i hc; rw [hc] at H
            split
            · rename_i hp; rw [hp] at H
              obtain ⟨v, hv, ht⟩ := H; exact ⟨v, hv, typed_mono (hk _ _) ht⟩
            · rename_i hp; rw [hp] at H; exact sp H
          · rename_i hc; rw [hc] at H; exact hwp_mono _ (fun n h hn => nk hn) H
        | tmp t => exact hwp_mono _ (fun n h hn => nk hn) H
        | const v => exact hwp_mono _ (fun n h hn => nk hn) H
        | global v => exact hwp_mono _ (fun n h hn => nk hn) H

/-! ### An operation reads its operands alone -/
theorem opK_congr {P : Program} {ρ ρ' : Operand → Value} {o : Oper} {l : List Operand} (hl : opsOf o = some l) (h : ∀ x ∈ l, ρ x = ρ' x) (hρ : ∀ f, ρ (.func f) = ρ' (.func f)) :
    opK P ρ o = opK P ρ' o := by
  have hex := execOp_congr hl h
  obtain ⟨dst, op, ty, pos, af, g⟩ := o
  cases op <;> first | (simp [opsOf] at hl; done) | (simp only [opsOf, Option.some.injEq] at hl; subst hl; simp only [Op.operands] at h)
  case call c =>
    obtain ⟨callee, args, at_⟩ := c
    have ha : args.map ρ = args.map ρ' := map_congr fun x hx => h x (by simp [Call.operands, hx])
    have hb : args.toList.map ρ = args.toList.map ρ' := by have := congrArg Array.toList ha; simpa using this
    cases callee with
    | builtin b => cases b <;> (funext K h; simp only [opK, fastOp, heavyOp, semV, semU, ha])
    | value f =>
      have hf := h f (by simp [Call.operands])
      cases f <;> (funext K h; simp only [opK, fastOp, heavyOp, hb, hf, hex])
    | invoke r m => funext K h; simp only [opK, fastOp, heavyOp, hex]
  case build t parts =>
    have : (parts.map fun x => (x.1, ρ x.2)) = parts.map fun x => (x.1, ρ' x.2) :=
      Array.map_congr_left fun x hx => by rw [h x.2 (by simp; exact ⟨x.1, hx⟩)]
    funext K h; simp only [opK, fastOp, heavyOp, semV, semU, this]
  case buildSlice t n parts =>
    have : (parts.map fun x => (x.1, ρ x.2)) = parts.map fun x => (x.1, ρ' x.2) :=
      Array.map_congr_left fun x hx => by rw [h x.2 (by simp; exact ⟨x.1, hx⟩)]
    funext K h; simp only [opK, fastOp, heavyOp, semV, semU, this]
  case makeFunc fn a b =>
    have ha : a.map ρ = a.map ρ' := map_congr fun x hx => h x (by simp [hx])
    have hb : b.map ρ = b.map ρ' := map_congr fun x hx => h x (by simp [hx])
    funext K h; simp only [opK, fastOp, heavyOp, semV, semU, ha, hb]
  case slice t x lo hi mx =>
    have h1 := h x (by simp)
    have h2 : lo.map ρ = lo.map ρ' := by cases lo with | none => rfl | some y => rw [Option.map_some, Option.map_some, h y (by simp)]
    have h3 : hi.map ρ = hi.map ρ' := by cases hi with | none => rfl | some y => rw [Option.map_some, Option.map_some, h y (by simp)]
    have h4 : mx.map ρ = mx.map ρ' := by cases mx with | none => rfl | some y => rw [Option.map_some, Option.map_some, h y (by simp)]
    funext K h; simp only [opK, fastOp, heavyOp, semV, semU, h1, h2, h3, h4]
  case makeMap t r =>
    have h2 : r.map ρ = r.map ρ' := by cases r with | none => rfl | some y => rw [Option.map_some, Option.map_some, h y (by simp)]
    funext K h; simp only [opK, fastOp, heavyOp, semV, semU, h2]
  case pick c a b => have h1 := h c (by simp); have h2 := h a (by simp); have h3 := h b (by simp); funext K h; simp only [opK, fastOp, heavyOp, semV, semU, h1, h2, h3]
  case mapUpdate t c a b => have h1 := h c (by simp); have h2 := h a (by simp); have h3 := h b (by simp); funext K h; simp only [opK, fastOp, heavyOp, semV, semU, h1, h2, h3]
  case entryStore t c a b => have h1 := h c (by simp); have h2 := h a (by simp); have h3 := h b (by simp); funext K h; simp only [opK, fastOp, heavyOp, semV, semU, h1, h2, h3]
  case insert t c a b => have h1 := h c (by simp); have h2 := h a (by simp); have h3 := h b (by simp); funext K h; simp only [opK, fastOp, heavyOp, semV, semU, h1, h2, h3]
  case store t a b => have h2 := h a (by simp); have h3 := h b (by simp); funext K h; simp only [opK, fastOp, heavyOp, h2, h3]
  case binOp op t a b yt => have h2 := h a (by simp); have h3 := h b (by simp); funext K h; simp only [opK, fastOp, heavyOp, semV, semU, h2, h3]
  case makeSlice t a b => have h2 := h a (by simp); have h3 := h b (by simp); funext K h; simp only [opK, fastOp, heavyOp, semV, semU, h2, h3]
  case indexAddr t a b => have h2 := h a (by simp); have h3 := h b (by simp); funext K h; simp only [opK, fastOp, heavyOp, semV, semU, h2, h3]
  case index t a b => have h2 := h a (by simp); have h3 := h b (by simp); funext K h; simp only [opK, fastOp, heavyOp, semV, semU, h2, h3]
  case lookup t a b ok => have h2 := h a (by simp); have h3 := h b (by simp); funext K h; simp only [opK, fastOp, heavyOp, semV, semU, h2, h3]
  case mapEntry t a b => have h2 := h a (by simp); have h3 := h b (by simp); funext K h; simp only [opK, fastOp, heavyOp, semV, semU, h2, h3]
  case alloc e => rfl
  case ready g => rfl
  case load t x => have h1 := h x (by simp); funext K h; simp only [opK, fastOp, heavyOp, h1]
  case nilCheck x => have h1 := h x (by simp); funext K h; simp only [opK, fastOp, heavyOp, h1]
  case move x => have h1 := h x (by simp); funext K h; simp only [opK, fastOp, h1]
  case assign x => have h1 := h x (by simp); funext K h; simp only [opK, fastOp, h1]
  case box t x => have h1 := h x (by simp); funext K h; simp only [opK, fastOp, heavyOp, semV, semU, h1]
  case unOp op t x => have h1 := h x (by simp); funext K h; simp only [opK, fastOp, heavyOp, semV, semU, h1]
  case convert s d x => have h1 := h x (by simp); funext K h; simp only [opK, fastOp, heavyOp, semV, semU, h1]
  case sliceToArrayPointer d x => have h1 := h x (by simp); funext K h; simp only [opK, fastOp, heavyOp, semV, semU, h1]
  case makeInterface d x => have h1 := h x (by simp); funext K h; simp only [opK, fastOp, heavyOp, semV, semU, h1]
  case fieldAddr d x f => have h1 := h x (by simp); funext K h; simp only [opK, fastOp, heavyOp, semV, semU, h1]
  case field d x f => have h1 := h x (by simp); funext K h; simp only [opK, fastOp, heavyOp, semV, semU, h1]
  case range d x => have h1 := h x (by simp); funext K h; simp only [opK, fastOp, heavyOp, semV, semU, h1]
  case next x b => have h1 := h x (by simp); funext K h; simp only [opK, fastOp, heavyOp, semV, semU, h1]
  case entry x => have h1 := h x (by simp); funext K h; simp only [opK, fastOp, heavyOp, semV, semU, h1]
  case typeAssert x a b c => have h1 := h x (by simp); funext K h; simp only [opK, fastOp, heavyOp, semV, semU, h1]
  case extract x a => have h1 := h x (by simp); funext K h; simp only [opK, fastOp, heavyOp, semV, semU, h1]

theorem castK_elim {P : Program} {ops : List Oper} {o : Oper} {K : Value → Heap → Prop} {v : Value} {h : Heap} (H : castK P ops o K v h) : K v h := by
  unfold castK at H
  cases e : rawExtract ops o with
  | true => rw [e] at H; exact typed_elim H
  | false => rw [e] at H; exact H
theorem castK_mono {P : Program} {ops : List Oper} {o : Oper} {K K' : Value → Heap → Prop} (hk : ∀ v h, K v h → K' v h) (v : Value) (h : Heap) (H : castK P ops o K v h) : castK P ops o K' v h := by
  unfold castK at *
  cases e : rawExtract ops o with
  | true => rw [e] at H; exact typed_mono (hk _ _) H
  | false => rw [e] at H; exact hk _ _ H
theorem opX_some {P : Program} {ops : List Oper} {ρ : Operand → Value} (hρ : ∀ f, ρ (.func f) = .func (.func f) #[] #[]) {o : Oper} {K : Value → Heap → Prop} {h : Heap} (H : opX P ops ρ o K h) : ∃ v h', K v h' :=
  let ⟨v, h', k⟩ := opK_some hρ H; ⟨v, h', castK_elim k⟩
theorem opX_mono {P : Program} {ops : List Oper} {ρ : Operand → Value} {o : Oper} {K K' : Value → Heap → Prop} (hk : ∀ v h, K v h → K' v h) {h : Heap} (H : opX P ops ρ o K h) : opX P ops ρ o K' h :=
  opK_mono (castK_mono hk) H
theorem opX_congr {P : Program} {ops : List Oper} {ρ ρ' : Operand → Value} {o : Oper} {l : List Operand} (hl : opsOf o = some l) (h : ∀ x ∈ l, ρ x = ρ' x) (hρ : ∀ f, ρ (.func f) = ρ' (.func f)) :
    opX P ops ρ o = opX P ops ρ' o := by
  funext K h'; unfold opX; rw [opK_congr hl h hρ]
theorem opX_plain {P : Program} {ops : List Oper} {ρ : Operand → Value} {o : Oper} (h : cls P o ≠ 0) : opX P ops ρ o = opK P ρ o := by
  have : rawExtract ops o = false := by
    unfold rawExtract
    split
    · rename_i hop; exfalso; apply h; unfold cls; rw [hop]
    · rfl
  funext K h'; unfold opX castK; rw [this]
theorem opX0 {P : Program} {ops : List Oper} {ρ : Operand → Value} {o : Oper} (hc : cls P o = 0) : DetP (opX P ops ρ o) := by
  cases e : rawExtract ops o with
  | false =>
    have : opX P ops ρ o = opK P ρ o := by funext K h'; unfold opX castK; rw [e]
    rw [this]; exact cls0 hc
  | true =>
    rcases cls0 (ρ := ρ) hc with hs | ⟨v, hs⟩
    · exact .inl fun K h => hs _ h
    · by_cases ht : typed (shapeOf P o.type) (fun _ => True) v
      · refine .inr ⟨v, fun K h => ?_⟩
        unfold opX castK; rw [e, hs]
        show typed _ (fun v => K v h) v ↔ _
        rw [typed_iff]; exact ⟨And.right, fun k => ⟨ht, k⟩⟩
      · refine .inl fun K h H => ?_
        unfold opX castK at H; rw [e, hs] at H
        have H : typed _ (fun v => K v h) v := H
        rw [typed_iff] at H; exact ht H.1

/-! ### One operation of a region, as what it yields -/
def wantFr (ops : List Oper) (o : Oper) (fr : Fr) : Option Bool :=
  match o.guard with
  | none => some true
  | some (j, w) => match (nth ops j).bind (·.dst) with
    | none => none
    | some d => match fr.get d with
      | some (.bool b) => some (b == w)
      | some _ => some false
      | none => none
def Y (P : Program) (ops : List Oper) (o : Oper) (fr : Fr) (K : Value → Heap → Prop) (h : Heap) : Prop :=
  match wantFr ops o fr with
  | some true => match opsOf o with
    | none => False
    | some l => match allKnown fr l with
      | true => opX P ops fr.rho o K h
      | false => False
  | some false => K undef h
  | none => False
theorem set_same {fr : Fr} {d : Nat} {v : Value} (h : fr.get d = some v) : fr.set d v = fr := by
  induction fr generalizing d with
  | nil => rfl
  | cons x l ih =>
    cases d with
    | zero => simp only [Fr.get] at h; simp [Fr.set, h]
    | succ d => simp only [Fr.get] at h; simp [Fr.set, ih h]
theorem evOne_iff {P : Program} {ops : List Oper} {o : Oper} {fr : Fr} {K : Fr → Heap → Prop} {h : Heap} :
    evOne P ops o fr K h ↔ Y P ops o fr (fun v h => K (fr.put o.dst v) h) h := by
  unfold evOne Y wantFr
  cases hg : o.guard with
  | none => rfl
  | some jw =>
    obtain ⟨j, w⟩ := jw
    simp only
    cases (nth ops j).bind (·.dst) with
    | none => rfl
    | some d =>
      simp only
      cases hd : fr.get d with
      | none => rfl
      | some v =>
        cases v <;> first | rfl | skip
        case bool b => cases b <;> cases w <;> simp only [br, set_same hd] <;> rfl

theorem Y_mono {P : Program} {ops : List Oper} {o : Oper} {fr : Fr} {K K' : Value → Heap → Prop} (hk : ∀ v h, K v h → K' v h) {h : Heap} (H : Y P ops o fr K h) : Y P ops o fr K' h := by
  unfold Y at *
  split at H
  · split at H
    · exact H
    · split at H
      · exact opX_mono hk H
      · exact H
  · exact hk _ _ H
  · exact H
theorem Y_some {P : Program} {ops : List Oper} {o : Oper} {fr : Fr} {K : Value → Heap → Prop} {h : Heap} (H : Y P ops o fr K h) : ∃ v h', K v h' := by
  unfold Y at H
  split at H
  · split at H
    · exact H.elim
    · split at H
      · exact opX_some (rho_func fr) H
      · exact H.elim
  · exact ⟨_, _, H⟩
  · exact H.elim

theorem get_put_ne {fr : Fr} {d : Option Tmp} {v : Value} {i : Nat} (h : ∀ e, d = some e → e ≠ i) : (fr.put d v).get i = fr.get i := by
  cases d with
  | none => rfl
  | some e => simp only [Fr.put]; rw [Fr.get_set, if_neg (fun hh => h e rfl hh.1.symm)]
theorem ev_put_ne {fr : Fr} {d : Option Tmp} {v : Value} {x : Operand} (h : ∀ e, d = some e → x ≠ .tmp e) : (fr.put d v).ev x = fr.ev x := by
  cases x with
  | tmp t => exact get_put_ne fun e he hh => h e he (by rw [hh])
  | _ => rfl
theorem opsOf_tmps {o : Oper} {l : List Operand} (hl : opsOf o = some l) : l = o.op.operands.toList := by
  unfold opsOf at hl
  split at hl <;> simp_all
theorem looks_of {ops : Array Oper} {o : Oper} {l : List Operand} (hl : opsOf o = some l) {t : Tmp} (hx : Operand.tmp t ∈ l) : t ∈ o.looksAt ops := by
  unfold Oper.looksAt
  rw [opsOf_tmps hl] at hx
  exact List.mem_append_left _ (List.mem_filterMap.2 ⟨_, hx, rfl⟩)
theorem allKnown_congr {fr fr' : Fr} {l : List Operand} (h : ∀ x ∈ l, fr.ev x = fr'.ev x) : allKnown fr l = allKnown fr' l := by
  induction l with
  | nil => rfl
  | cons x l ih =>
    have h1 : known fr x = known fr' x := by unfold known; rw [h x (by simp)]
    simp only [allKnown, h1, ih fun y hy => h y (by simp [hy])]

/-- A slot that an operation does not look at makes no difference to it. -/
theorem Y_put {P : Program} {ops : Array Oper} {o : Oper} {fr : Fr} {d : Option Tmp} {v : Value} (h : ∀ e, d = some e → e ∉ o.looksAt ops) : Y P ops.toList o (fr.put d v) = Y P ops.toList o fr := by
  have hw : wantFr ops.toList o (fr.put d v) = wantFr ops.toList o fr := by
    unfold wantFr
    cases hg : o.guard with
    | none => rfl
    | some jw =>
      obtain ⟨j, w⟩ := jw
      simp only
      cases hd : (nth ops.toList j).bind (·.dst) with
      | none => rfl
      | some g =>
        simp only
        rw [get_put_ne fun e he hh => h e he (by
          subst hh
          unfold Oper.looksAt
          refine List.mem_append_right _ ?_
          rw [hg]
          rw [nth_eq, Array.getElem?_toList] at hd
          simp [hd])]
  funext K g
  unfold Y
  rw [hw]
  split
  · cases hl : opsOf o with
    | none => rfl
    | some l =>
      simp only
      have he : ∀ x ∈ l, (fr.put d v).ev x = fr.ev x := fun x hx => ev_put_ne fun e he hh => h e he (looks_of hl (hh ▸ hx))
      rw [allKnown_congr he]
      split
      · rw [opX_congr (ρ := (fr.put d v).rho) (ρ' := fr.rho) hl (fun x hx => by unfold Fr.rho; rw [he x hx]) (fun f => rfl)]
      · rfl
  · rfl
  · rfl
theorem put_comm' (fr : Fr) {x y : Option Tmp} (v u : Value) (h : ∀ d, x = some d → y ≠ some d) : (fr.put x v).put y u = (fr.put y u).put x v := by
  cases x with
  | none => rfl
  | some d =>
    cases y with
    | none => rfl
    | some e =>
      have hne : d ≠ e := fun he => h d rfl (he ▸ rfl)
      simp only [Fr.put]
      clear h
      induction fr generalizing d e with
      | nil => rfl
      | cons z l ih =>
        cases d with
        | zero => cases e with
          | zero => exact absurd rfl hne
          | succ e => rfl
        | succ d => cases e with
          | zero => rfl
          | succ e => simp only [Fr.set]; rw [ih d e (fun hh => hne (by rw [hh]))]

/-- Behind it a new block, or nothing. -/
def NewsOr (F : (Value → Heap → Prop) → Heap → Prop) : Prop := ∀ h, (∀ K, ¬ F K h) ∨ (∃ v, ∀ K, F K h ↔ K v h) ∨ ∃ v o, ∀ K, F K h ↔ K v (h.push o)
theorem Y_cases {P : Program} {ops : List Oper} {o : Oper} {fr : Fr} (R : ((Value → Heap → Prop) → Heap → Prop) → Prop) (h1 : R (opX P ops fr.rho o)) (h2 : R fun K h => K undef h) (h3 : R fun _ _ => False) : R (Y P ops o fr) := by
  cases hw : wantFr ops o fr with
  | none => rw [show Y P ops o fr = fun _ _ => False from by funext K h; simp only [Y, hw]]; exact h3
  | some b =>
    cases b with
    | false => rw [show Y P ops o fr = fun K h => K undef h from by funext K h; simp only [Y, hw]]; exact h2
    | true =>
      cases hl : opsOf o with
      | none => rw [show Y P ops o fr = fun _ _ => False from by funext K h; simp only [Y, hw, hl]]; exact h3
      | some l =>
        cases hk : allKnown fr l with
        | true => rw [show Y P ops o fr = opX P ops fr.rho o from by funext K h; simp only [Y, hw, hl, hk]]; exact h1
        | false => rw [show Y P ops o fr = fun _ _ => False from by funext K h; simp only [Y, hw, hl, hk]]; exact h3
theorem Y0 {P : Program} {ops : List Oper} {o : Oper} {fr : Fr} (hc : cls P o = 0) : DetP (Y P ops o fr) :=
  Y_cases _ (opX0 hc) (.inr ⟨_, fun _ _ => Iff.rfl⟩) (.inl fun _ _ => id)
theorem Y1 {P : Program} {ops : List Oper} {o : Oper} {fr : Fr} (hc : cls P o = 1) : Reads (Y P ops o fr) :=
  Y_cases _ (opX_plain (P := P) (o := o) (by rw [hc]; simp) ▸ cls1 hc) (DetP.reads (.inr ⟨_, fun _ _ => Iff.rfl⟩)) (DetP.reads (.inl fun _ _ => id))
theorem Y2 {P : Program} {ops : List Oper} {o : Oper} {fr : Fr} (hc : cls P o = 2) : NewsOr (Y P ops o fr) :=
  Y_cases _ (by rw [opX_plain (P := P) (o := o) (by rw [hc]; simp)]; exact fun h => (cls2 hc h).imp id .inr) (fun h => .inr (.inl ⟨_, fun _ => Iff.rfl⟩)) (fun h => .inl fun _ => id)

def comm (P : Program) (ops : Array Oper) (x y : Oper) : Bool :=
  x.apart ops y && (cls P x == 0 || cls P y == 0 || (cls P x == 1 && (cls P y == 1 || cls P y == 2)))

theorem swapY {P : Program} {ops : List Oper} {x y : Oper} {fr : Fr} (hc : (cls P x == 0 || cls P y == 0 || (cls P x == 1 && (cls P y == 1 || cls P y == 2))) = true)
    {K : Value → Value → Heap → Prop} {h : Heap} (H : Y P ops x fr (fun v h => Y P ops y fr (fun u h => K v u h) h) h) :
    Y P ops y fr (fun u h => Y P ops x fr (fun v h => K v u h) h) h := by
  simp only [Bool.or_eq_true, Bool.and_eq_true, beq_iff_eq] at hc
  rcases hc with (hx | hy) | ⟨hx, hy | hy⟩
  · rcases Y0 (ops := ops) (fr := fr) hx with f | ⟨v, f⟩
    · exact absurd H (f _ _)
    · have H := (f _ _).1 H
      exact Y_mono (K := fun u h => K v u h) (fun u h hk => (f _ _).2 hk) H
  · rcases Y0 (ops := ops) (fr := fr) hy with f | ⟨u, f⟩
    · obtain ⟨v, h', H'⟩ := Y_some H
      exact absurd H' (f _ _)
    · exact (f _ _).2 (Y_mono (K' := fun v h => K v u h) (fun v h hk => (f _ _).1 hk) H)
  · rcases Y1 (ops := ops) (fr := fr) hx h with f | ⟨v, f, _⟩
    · exact absurd H (f _)
    · have H := (f _).1 H
      rcases Y1 (ops := ops) (fr := fr) hy h with g | ⟨u, g, _⟩
      · exact absurd H (g _)
      · exact (g _).2 ((f _).2 ((g _).1 H))
  · rcases Y1 (ops := ops) (fr := fr) hx h with f | ⟨v, f, f2⟩
    · exact absurd H (f _)
    · have H := (f _).1 H
      rcases Y2 (ops := ops) (fr := fr) hy h with g | ⟨u, g⟩ | ⟨u, o, g⟩
      · exact absurd H (g _)
      · exact (g _).2 ((f _).2 ((g _).1 H))
      · exact (g _).2 ((f2 o _).2 ((g _).1 H))

theorem evOne_mono {P : Program} {ops : List Oper} {o : Oper} {fr : Fr} {K K' : Fr → Heap → Prop} (hk : ∀ fr h, K fr h → K' fr h) {h : Heap} (H : evOne P ops o fr K h) : evOne P ops o fr K' h :=
  evOne_iff.2 (Y_mono (fun v h => hk _ _) (evOne_iff.1 H))
theorem swap {P : Program} {ops : Array Oper} {x y : Oper} (hc : comm P ops x y = true) {fr : Fr} {K : Fr → Heap → Prop} {h : Heap}
    (H : evOne P ops.toList x fr (fun fr h => evOne P ops.toList y fr K h) h) : evOne P ops.toList y fr (fun fr h => evOne P ops.toList x fr K h) h := by
  simp only [comm, Bool.and_eq_true] at hc
  obtain ⟨hap, hc⟩ := hc
  obtain ⟨h1, h2, h3⟩ := Oper.apart_spec hap
  rw [evOne_iff] at H ⊢
  have H' : Y P ops.toList x fr (fun v h => Y P ops.toList y fr (fun u h => K ((fr.put x.dst v).put y.dst u) h) h) h :=
    Y_mono (fun v h hk => by rw [evOne_iff, Y_put h1] at hk; exact hk) H
  refine Y_mono (fun u h hk => ?_) (swapY hc H')
  rw [evOne_iff, Y_put h3]
  exact Y_mono (fun v h hk => by rw [← put_comm' fr v u h2]; exact hk) hk

/-! ### Whatever order is picked -/
def evAny (P : Program) (ops : Array Oper) : Nat → Array Bool → Fr → (Fr → Heap → Prop) → Heap → Prop
  | 0, listed, fr, K, h => Region.ready .any ops listed = [] ∧ K fr h
  | n + 1, listed, fr, K, h => (Region.ready .any ops listed = [] → K fr h) ∧
    ∀ i ∈ Region.ready .any ops listed, ∀ o, ops[i]? = some o → evOne P ops.toList o fr (fun fr h => evAny P ops n (listed.setIfInBounds i true) fr K h) h

/-- j waits for i, by whatever way. -/
inductive Waits (ops : Array Oper) : Nat → Nat → Prop
  | one {j i : Nat} {o : Oper} {e : Edge} (h : ops[j]? = some o) (he : e ∈ o.after) (hb : Region.binds .any e = true) (hi : e.on = i) : Waits ops j i
  | far {j i : Nat} {o : Oper} {e : Edge} (h : ops[j]? = some o) (he : e ∈ o.after) (hb : Region.binds .any e = true) (hw : Waits ops e.on i) : Waits ops j i
def Down (ops : Array Oper) (listed : Array Bool) : Prop :=
  ∀ j o, listed.getD j false = true → ops[j]? = some o → ∀ e ∈ o.after, Region.binds .any e = true → listed.getD e.on false = true
theorem Waits.listed {ops : Array Oper} {listed : Array Bool} (hd : Down ops listed) {j i : Nat} (h : Waits ops j i) : listed.getD j false = true → listed.getD i false = true := by
  induction h with
  | one h he hb hi => exact fun hj => hi ▸ hd _ _ hj h _ he hb
  | far h he hb hw ih => exact fun hj => ih (hd _ _ hj h _ he hb)
theorem getD_both {listed : Array Bool} {i : Nat} (h0 : listed.getD i true = false) (h1 : listed.getD i false = true) : False := by
  rcases Nat.lt_or_ge i listed.size with h | h
  · simp [h] at h0 h1; rw [h0] at h1; cases h1
  · simp [Array.getElem?_eq_none h] at h0
theorem not_waits {ops : Array Oper} {listed : Array Bool} (hd : Down ops listed) {i j : Nat} (hi : i ∈ Region.ready .any ops listed) (hj : j ∈ Region.ready .any ops listed) : ¬ Waits ops j i := by
  intro hw
  obtain ⟨_, o, ho, hall⟩ := mem_ready.1 hj
  have h0 := (mem_ready.1 hi).1
  cases hw with
  | one h he hb hie => rw [ho] at h; cases h; exact getD_both h0 (hie ▸ hall _ he hb)
  | far h he hb hw => rw [ho] at h; cases h; exact getD_both h0 (hw.listed hd (hall _ he hb))
theorem Down.set {ops : Array Oper} {listed : Array Bool} (hd : Down ops listed) {i : Nat} (hi : i ∈ Region.ready .any ops listed) : Down ops (listed.setIfInBounds i true) := by
  intro j o hj ho e he hb
  by_cases hji : j = i
  · subst hji
    obtain ⟨_, o', ho', hall⟩ := mem_ready.1 hi
    rw [ho] at ho'; cases ho'
    exact getD_set_true (hall e he hb)
  · rw [getD_set_ne false (Ne.symm hji)] at hj
    exact getD_set_true (hd j o hj ho e he hb)

theorem evAny_first {P : Program} {ops : Array Oper} {i : Nat} {oi : Oper} (hi : ops[i]? = some oi) {K : Fr → Heap → Prop} : ∀ (fuel : Nat) (listed : Array Bool) (fr : Fr) (h : Heap),
    Down ops listed →
    (∀ j oj, ops[j]? = some oj → j ≠ i → listed.getD j true = false → Waits ops j i ∨ comm P ops oi oj = true) →
    i ∈ Region.ready .any ops listed → evOne P ops.toList oi fr (fun fr h => evAny P ops fuel (listed.setIfInBounds i true) fr K h) h → evAny P ops (fuel + 1) listed fr K h := by
  intro fuel
  induction fuel with
  | zero =>
    intro listed fr h hd hfree hr H
    refine ⟨fun hn => (by rw [hn] at hr; cases hr), fun j hj o ho => ?_⟩
    by_cases hji : j = i
    · subst hji; rw [hi] at ho; cases ho; exact H
    · exfalso
      obtain ⟨v, h', H'⟩ := Y_some (evOne_iff.1 H)
      have := ready_mono hj hji
      rw [H'.1] at this; cases this
  | succ fuel ih =>
    intro listed fr h hd hfree hr H
    refine ⟨fun hn => (by rw [hn] at hr; cases hr), fun j hj o ho => ?_⟩
    by_cases hji : j = i
    · subst hji; rw [hi] at ho; cases ho; exact H
    · have hc : comm P ops oi o = true := (hfree j o ho hji (mem_ready.1 hj).1).resolve_left (not_waits hd hr hj)
      have H1 : evOne P ops.toList oi fr (fun fr h => evOne P ops.toList o fr (fun fr h => evAny P ops fuel ((listed.setIfInBounds i true).setIfInBounds j true) fr K h) h) h :=
        evOne_mono (fun fr h hh => hh.2 j (ready_mono hj hji) o ho) H
      refine evOne_mono (fun fr h hh => ?_) (swap hc H1)
      refine ih (listed.setIfInBounds j true) fr h (hd.set hj) ?_ (ready_mono hr (Ne.symm hji)) ?_
      · intro k ok hk hki hun
        refine hfree k ok hk hki ?_
        by_cases hjk : j = k
        · subst hjk; exact (mem_ready.1 hj).1
        · rw [getD_set_ne true hjk] at hun; exact hun
      · rw [Array.setIfInBounds_comm _ _ hji]
        exact hh

/-- For each operation, all that it waits for (bits). -/
def ancOf (o : Oper) (acc : List Nat) : Nat := o.after.toList.foldl (fun s e => if Region.binds .any e then s ||| 2 ^ e.on ||| (nth acc e.on).getD 0 else s) 0
def ancGo : List Oper → List Nat → List Nat
  | [], acc => acc
  | o :: l, acc => ancGo l (acc ++ [ancOf o acc])
theorem ancOf_bits {o : Oper} {acc : List Nat} {i : Nat} (h : (ancOf o acc).testBit i = true) : ∃ e ∈ o.after, Region.binds .any e = true ∧ (e.on = i ∨ ∃ m, nth acc e.on = some m ∧ m.testBit i = true) := by
  unfold ancOf at h
  have key : ∀ (l : List Edge) (s : Nat), (l.foldl (fun s e => if Region.binds .any e then s ||| 2 ^ e.on ||| (nth acc e.on).getD 0 else s) s).testBit i = true →
      s.testBit i = true ∨ ∃ e ∈ l, Region.binds .any e = true ∧ (e.on = i ∨ ∃ m, nth acc e.on = some m ∧ m.testBit i = true) := by
    intro l
    induction l with
    | nil => exact fun s h => .inl h
    | cons e l ih =>
      intro s h
      rw [List.foldl_cons] at h
      rcases ih _ h with h | ⟨e', he', hb⟩
      · split at h
        · rename_i hb
          rw [Nat.testBit_or, Nat.testBit_or, Nat.testBit_two_pow] at h
          simp only [Bool.or_eq_true, decide_eq_true_eq] at h
          rcases h with (h | h) | h
          · exact .inl h
          · exact .inr ⟨e, by simp, hb, .inl h⟩
          · cases hn : nth acc e.on with
            | none => rw [hn] at h; simp at h
            | some m => rw [hn] at h; exact .inr ⟨e, by simp, hb, .inr ⟨m, hn, h⟩⟩
        · exact .inl h
      · exact .inr ⟨e', by simp [he'], hb⟩
  rcases key _ _ h with h | ⟨e, he, hb⟩
  · simp at h
  · exact ⟨e, by simpa using he, hb⟩
theorem ancGo_ok {ops : Array Oper} : ∀ (l : List Oper) (acc : List Nat), (∀ k, l[k]? = ops[acc.length + k]?) → (∀ j m i, nth acc j = some m → m.testBit i = true → Waits ops j i) →
    ∀ j m i, nth (ancGo l acc) j = some m → m.testBit i = true → Waits ops j i := by
  intro l
  induction l with
  | nil => exact fun acc _ h => h
  | cons o l ih =>
    intro acc hl h
    refine ih _ (fun k => by have := hl (k + 1); simp only [List.getElem?_cons_succ] at this; rw [this]; simp; congr 1; omega) ?_
    intro j m i hj hb
    rw [nth_eq] at hj
    rcases Nat.lt_or_ge j acc.length with hlt | hge
    · rw [List.getElem?_append_left hlt, ← nth_eq] at hj; exact h j m i hj hb
    · rw [List.getElem?_append_right hge] at hj
      have hj0 : j - acc.length = 0 := by
        rcases Nat.eq_zero_or_pos (j - acc.length) with h0 | h0
        · exact h0
        · rw [List.getElem?_eq_none (by simp; omega)] at hj; simp at hj
      have hje : j = acc.length := by omega
      rw [hj0] at hj
      simp at hj
      subst hj
      have ho : ops[j]? = some o := by have := hl 0; simp at this; rw [hje]; exact this.symm
      obtain ⟨e, he, hbi, hc⟩ := ancOf_bits hb
      rcases hc with hc | ⟨m, hm, hmb⟩
      · exact .one ho he hbi hc
      · exact .far ho he hbi (h _ _ _ hm hmb)

def okFrom (P : Program) (ops : Array Oper) (anc : List Nat) : List Nat → Array Bool → Bool
  | [], listed => (Region.ready .any ops listed).isEmpty
  | i :: s, listed => (Region.ready .any ops listed).contains i &&
    (match ops[i]? with
      | none => false
      | some oi => (List.range ops.size).all fun j => j == i || listed.getD j true || ((nth anc j).getD 0).testBit i || (match ops[j]? with | none => true | some oj => comm P ops oi oj)) &&
    okFrom P ops anc s (listed.setIfInBounds i true)
def allFrom (P : Program) (ops : Array Oper) (anc : List Nat) (oi : Oper) (i m : Nat) : List Oper → Nat → Bool
  | [], _ => true
  | oj :: l, j => (j == i || m.testBit j || ((nth anc j).getD 0).testBit i || comm P ops oi oj) && allFrom P ops anc oi i m l (j + 1)
/-- The same, with what is listed as bits: quick to reckon. -/
def okM (P : Program) (ops : Array Oper) (anc : List Nat) : List Nat → Nat → Bool
  | [], m => m == 2 ^ ops.size - 1
  | i :: s, m => (match nth ops.toList i with
    | none => false
    | some oi => !m.testBit i && (oi.after.toList.all fun e => !Region.binds .any e || m.testBit e.on) && allFrom P ops anc oi i m ops.toList 0) && okM P ops anc s (m ||| 2 ^ i)
theorem allFrom_get {P : Program} {ops : Array Oper} {anc : List Nat} {oi : Oper} {i m : Nat} : ∀ (l : List Oper) (j0 : Nat), allFrom P ops anc oi i m l j0 = true → ∀ (t : Nat) (oj : Oper), l[t]? = some oj →
    (j0 + t == i || m.testBit (j0 + t) || ((nth anc (j0 + t)).getD 0).testBit i || comm P ops oi oj) = true := by
  intro l
  induction l with
  | nil => intro j0 _ t oj h; simp at h
  | cons o l ih =>
    intro j0 h t oj ht
    simp only [allFrom, Bool.and_eq_true] at h
    cases t with
    | zero => simp at ht; subst ht; exact h.1
    | succ t =>
      have := ih (j0 + 1) h.2 t oj (by simpa using ht)
      rwa [show j0 + 1 + t = j0 + (t + 1) by omega] at this
theorem getD_tf {listed : Array Bool} {k : Nat} (h : k < listed.size) : listed.getD k true = listed.getD k false := by simp [h]
theorem okM_from {P : Program} {ops : Array Oper} {anc : List Nat} : ∀ (s : List Nat) (m : Nat) (listed : Array Bool), listed.size = ops.size → (∀ k, k < ops.size → listed.getD k true = m.testBit k) → (∀ k, m.testBit k = true → k < ops.size) →
    okM P ops anc s m = true → okFrom P ops anc s listed = true := by
  intro s
  induction s with
  | nil =>
    intro m listed hs hk hm h
    simp only [okM, beq_iff_eq] at h
    simp only [okFrom, List.isEmpty_iff]
    rw [List.eq_nil_iff_forall_not_mem]
    intro j hj
    obtain ⟨h0, o, ho, _⟩ := mem_ready.1 hj
    have hlt : j < ops.size := (Array.getElem?_eq_some_iff.1 ho).1
    rw [hk j hlt, h, Nat.testBit_two_pow_sub_one] at h0
    simp [hlt] at h0
  | cons i s ih =>
    intro m listed hs hk hm h
    simp only [okM, Bool.and_eq_true] at h
    obtain ⟨h1, h2⟩ := h
    split at h1
    · cases h1
    · rename_i oi hoi
      rw [nth_eq, Array.getElem?_toList] at hoi
      have hlt : i < ops.size := (Array.getElem?_eq_some_iff.1 hoi).1
      simp only [Bool.and_eq_true, Bool.not_eq_true'] at h1
      obtain ⟨⟨hb, ha⟩, hf⟩ := h1
      simp only [okFrom, Bool.and_eq_true]
      refine ⟨⟨?_, ?_⟩, ?_⟩
      · rw [List.contains_iff_mem]
        refine mem_ready.2 ⟨by rw [hk i hlt]; exact hb, oi, hoi, fun e he hbd => ?_⟩
        have := List.all_eq_true.1 ha e (by simpa using he)
        rw [hbd] at this
        have ht : m.testBit e.on = true := by simpa using this
        have hl := hm _ ht
        rw [← getD_tf (by omega), hk _ hl]; exact ht
      · rw [hoi]
        simp only [List.all_eq_true, List.mem_range]
        intro j hj
        have := allFrom_get ops.toList 0 hf j ops[j] (by simp [hj])
        rw [Nat.zero_add] at this
        rw [Array.getElem?_eq_getElem hj, hk j hj]
        exact this
      · refine ih _ _ (by simpa using hs) (fun k hkl => ?_) (fun k hkb => ?_) h2
        · rw [Nat.testBit_or, Nat.testBit_two_pow]
          by_cases hik : i = k
          · subst hik; simp [hs, hkl]
          · rw [getD_set_ne true hik, hk k hkl]; simp [hik]
        · rw [Nat.testBit_or, Nat.testBit_two_pow] at hkb
          simp only [Bool.or_eq_true, decide_eq_true_eq] at hkb
          rcases hkb with hkb | rfl
          · exact hm k hkb
          · exact hlt
/-- Is this order of a drawn region as good as any that may be drawn? -/
def okOrd (P : Program) (ops : Array Oper) (l : List Nat) : Bool :=
  P.follows .mixedOrders && decide (l.length = ops.size) && okM P ops (ancGo ops.toList []) l 0

theorem okFrom_ok {P : Program} {ops : Array Oper} {anc : List Nat} (ha : ∀ j m i, nth anc j = some m → m.testBit i = true → Waits ops j i) {K : Fr → Heap → Prop} : ∀ (s : List Nat) (listed : Array Bool) (fr : Fr) (h : Heap),
    Down ops listed → okFrom P ops anc s listed = true → evIdx P ops.toList s fr K h → evAny P ops s.length listed fr K h := by
  intro s
  induction s with
  | nil => intro listed fr h hd ho H; exact ⟨by simpa [okFrom] using ho, H⟩
  | cons i s ih =>
    intro listed fr h hd ho H
    simp only [okFrom, Bool.and_eq_true] at ho
    obtain ⟨⟨hr, hf⟩, ho⟩ := ho
    have hr : i ∈ Region.ready .any ops listed := by simpa using hr
    simp only [evIdx] at H
    split at H
    · exact H.elim
    · rename_i oi hoi
      rw [nth_eq, Array.getElem?_toList] at hoi
      rw [hoi] at hf
      refine evAny_first hoi s.length listed fr h hd ?_ hr (evOne_mono (fun fr h hh => ih _ fr h (hd.set hr) ho hh) H)
      intro j oj hoj hji hun
      have hlt : j < ops.size := (Array.getElem?_eq_some_iff.1 hoj).1
      have := List.all_eq_true.1 hf j (by simpa using hlt)
      rw [hoj] at this
      simp only [Bool.or_eq_true, beq_iff_eq] at this
      rcases this with ((h1 | h1) | h1) | h1
      · exact absurd h1 hji
      · rw [hun] at h1; cases h1
      · left
        cases hn : nth anc j with
        | none => rw [hn] at h1; simp at h1
        | some m => rw [hn] at h1; exact ha j m i hn h1
      · exact .inr h1
theorem okOrd_ok {P : Program} {ops : Array Oper} {l : List Nat} (ho : okOrd P ops l = true) {fr : Fr} {K : Fr → Heap → Prop} {h : Heap} (H : evIdx P ops.toList l fr K h) :
    P.follows .mixedOrders = true ∧ evAny P ops ops.size (Array.replicate ops.size false) fr K h := by
  simp only [okOrd, Bool.and_eq_true, decide_eq_true_eq] at ho
  obtain ⟨⟨h1, h2⟩, h3⟩ := ho
  refine ⟨h1, ?_⟩
  have h3 := okM_from l 0 (Array.replicate ops.size false) (by simp) (fun k hk => by simp [hk]) (fun k hk => by simp at hk) h3
  rw [← h2]
  rw [← h2] at h3
  refine okFrom_ok (ancGo_ok ops.toList [] (fun k => by simp) (fun j m i hn => by simp [nth] at hn)) l _ fr h ?_ h3 H
  intro j o hj
  exfalso
  rcases Nat.lt_or_ge j l.length with hlt | hge
  · simp [hlt] at hj
  · simp [Array.getElem?_eq_none, hge] at hj

/-! ### Several orders -/
/-- A tree of orders: a run of operations that are as good first; or either this one first, or another. -/
inductive Tr where
  | done
  | run (l : List Nat) (t : Tr)
  | alt (i : Nat) (t rest : Tr)
  | nil
def evT (P : Program) (ops : List Oper) : Tr → Fr → (Fr → Heap → Prop) → Heap → Prop
  | .done, fr, K, h => K fr h
  | .run l t, fr, K, h => evIdx P ops l fr (fun fr h => evT P ops t fr K h) h
  | .alt i t rest, fr, K, h => (match nth ops i with
    | none => False
    | some o => evOne P ops o fr (fun fr h => evT P ops t fr K h) h) ∧ evT P ops rest fr K h
  | .nil, _, _, _ => True
def readyM (o : Oper) (i m : Nat) : Bool := !m.testBit i && (o.after.toList.all fun e => !Region.binds .any e || m.testBit e.on)
def okRun (P : Program) (ops : Array Oper) (anc : List Nat) : List Nat → Nat → Nat → (Nat → Nat → Bool) → Bool
  | [], m, f, k => k m f
  | i :: s, m, f, k => match f with
    | 0 => false
    | f + 1 => (match nth ops.toList i with
      | none => false
      | some oi => readyM oi i m && allFrom P ops anc oi i m ops.toList 0) && okRun P ops anc s (m ||| 2 ^ i) f k
def seenAll (m seen : Nat) : List Oper → Nat → Bool
  | [], _ => true
  | o :: l, j => (seen.testBit j || !readyM o j m) && seenAll m seen l (j + 1)
def okT (P : Program) (ops : Array Oper) (anc : List Nat) : Tr → Nat → Nat → Nat → Bool
  | .done, m, _, f => m == 2 ^ ops.size - 1 && f == 0
  | .run l t, m, _, f => okRun P ops anc l m f (fun m f => okT P ops anc t m 0 f)
  | .alt i t rest, m, seen, f => (match nth ops.toList i with
    | none => false
    | some oi => readyM oi i m) && (match f with | 0 => false | f + 1 => okT P ops anc t (m ||| 2 ^ i) 0 f) && okT P ops anc rest m (seen ||| 2 ^ i) f
  | .nil, m, seen, f => (match f with | 0 => false | _ + 1 => true) && seenAll m seen ops.toList 0 && seen != 0

/-- What is listed, as bits. -/
structure Bits (ops : Array Oper) (listed : Array Bool) (m : Nat) : Prop where
  size : listed.size = ops.size
  get : ∀ k, k < ops.size → listed.getD k true = m.testBit k
  lt : ∀ k, m.testBit k = true → k < ops.size
theorem Bits.set {ops : Array Oper} {listed : Array Bool} {m i : Nat} (b : Bits ops listed m) (hi : i < ops.size) : Bits ops (listed.setIfInBounds i true) (m ||| 2 ^ i) := by
  refine ⟨by simpa using b.size, fun k hkl => ?_, fun k hkb => ?_⟩
  · rw [Nat.testBit_or, Nat.testBit_two_pow]
    by_cases hik : i = k
    · subst hik; simp [b.size, hkl]
    · rw [getD_set_ne true hik, b.get k hkl]; simp [hik]
  · rw [Nat.testBit_or, Nat.testBit_two_pow] at hkb
    simp only [Bool.or_eq_true, decide_eq_true_eq] at hkb
    rcases hkb with hkb | rfl
    · exact b.lt k hkb
    · exact hi
theorem Bits.ready {ops : Array Oper} {listed : Array Bool} {m i : Nat} {o : Oper} (b : Bits ops listed m) (ho : ops[i]? = some o) : i ∈ Region.ready .any ops listed ↔ readyM o i m = true := by
  have hlt : i < ops.size := (Array.getElem?_eq_some_iff.1 ho).1
  rw [mem_ready]
  simp only [readyM, Bool.and_eq_true, Bool.not_eq_true', List.all_eq_true, Bool.or_eq_true]
  constructor
  · rintro ⟨h0, o', ho', hall⟩
    rw [ho] at ho'; cases ho'
    refine ⟨by rw [← b.get i hlt]; exact h0, fun e he => ?_⟩
    by_cases hb : Region.binds .any e = true
    · right
      have := hall e (by simpa using he) hb
      have hel : e.on < listed.size := by
        rcases Nat.lt_or_ge e.on listed.size with h | h
        · exact h
        · simp [Array.getElem?_eq_none h] at this
      rw [← b.get _ (by rw [← b.size]; exact hel), getD_tf hel]; exact this
    · left; simpa using hb
  · rintro ⟨h0, hall⟩
    refine ⟨by rw [b.get i hlt]; exact h0, o, ho, fun e he hb => ?_⟩
    rcases hall e (by simpa using he) with h | h
    · rw [hb] at h; cases h
    · have hl := b.lt _ h
      rw [← getD_tf (by rw [b.size]; exact hl), b.get _ hl]; exact h
theorem seenAll_get {m seen : Nat} : ∀ (l : List Oper) (j0 : Nat), seenAll m seen l j0 = true → ∀ (t : Nat) (o : Oper), l[t]? = some o → (seen.testBit (j0 + t) || !readyM o (j0 + t) m) = true := by
  intro l
  induction l with
  | nil => intro j0 _ t oj h; simp at h
  | cons o l ih =>
    intro j0 h t oj ht
    simp only [seenAll, Bool.and_eq_true] at h
    cases t with
    | zero => simp at ht; subst ht; exact h.1
    | succ t =>
      have := ih (j0 + 1) h.2 t oj (by simpa using ht)
      rwa [show j0 + 1 + t = j0 + (t + 1) by omega] at this
theorem okRun_ok {P : Program} {ops : Array Oper} {anc : List Nat} (ha : ∀ j m i, nth anc j = some m → m.testBit i = true → Waits ops j i) {K : Fr → Heap → Prop} {E : Fr → Heap → Prop} {k : Nat → Nat → Bool}
    (hk : ∀ m f listed fr h, Down ops listed → Bits ops listed m → k m f = true → E fr h → evAny P ops f listed fr K h) : ∀ (s : List Nat) (m f : Nat) (listed : Array Bool) (fr : Fr) (h : Heap),
    Down ops listed → Bits ops listed m → okRun P ops anc s m f k = true → evIdx P ops.toList s fr E h → evAny P ops f listed fr K h := by
  intro s
  induction s with
  | nil => intro m f listed fr h hd hb ho H; exact hk m f listed fr h hd hb ho H
  | cons i s ih =>
    intro m f listed fr h hd hb ho H
    cases f with
    | zero => simp [okRun] at ho
    | succ f =>
      simp only [okRun, Bool.and_eq_true] at ho
      obtain ⟨h1, h2⟩ := ho
      simp only [evIdx] at H
      split at H
      · exact H.elim
      · rename_i oi hoi
        rw [hoi] at h1
        simp only [Bool.and_eq_true] at h1
        rw [nth_eq, Array.getElem?_toList] at hoi
        have hlt : i < ops.size := (Array.getElem?_eq_some_iff.1 hoi).1
        have hr : i ∈ Region.ready .any ops listed := (hb.ready hoi).2 h1.1
        refine evAny_first hoi f listed fr h hd ?_ hr (evOne_mono (fun fr h hh => ih _ f _ fr h (hd.set hr) (hb.set hlt) h2 hh) H)
        intro j oj hoj hji hun
        have hj : j < ops.size := (Array.getElem?_eq_some_iff.1 hoj).1
        have := allFrom_get ops.toList 0 h1.2 j oj (by simpa using hoj)
        rw [Nat.zero_add] at this
        simp only [Bool.or_eq_true, beq_iff_eq] at this
        rcases this with ((q | q) | q) | q
        · exact absurd q hji
        · rw [hb.get j hj, q] at hun; cases hun
        · left
          cases hn : nth anc j with
          | none => rw [hn] at q; simp at q
          | some m => rw [hn] at q; exact ha j m i hn q
        · exact .inr q
theorem okT_ok {P : Program} {ops : Array Oper} {anc : List Nat} (ha : ∀ j m i, nth anc j = some m → m.testBit i = true → Waits ops j i) {K : Fr → Heap → Prop} : ∀ (t : Tr) (m seen f : Nat) (listed : Array Bool) (fr : Fr) (h : Heap),
    Down ops listed → Bits ops listed m → okT P ops anc t m seen f = true → evT P ops.toList t fr K h → (seen ≠ 0 → Region.ready .any ops listed ≠ []) →
    (∀ f', f = f' + 1 → ∀ j ∈ Region.ready .any ops listed, seen.testBit j = true → ∀ o, ops[j]? = some o → evOne P ops.toList o fr (fun fr h => evAny P ops f' (listed.setIfInBounds j true) fr K h) h) → evAny P ops f listed fr K h := by
  intro t
  induction t with
  | done =>
    intro m seen f listed fr h hd hb ho H _ _
    simp only [okT, Bool.and_eq_true, beq_iff_eq] at ho
    obtain ⟨h1, rfl⟩ := ho
    refine ⟨?_, H⟩
    rw [List.eq_nil_iff_forall_not_mem]
    intro j hj
    obtain ⟨h0, o, ho, _⟩ := mem_ready.1 hj
    have hlt : j < ops.size := (Array.getElem?_eq_some_iff.1 ho).1
    rw [hb.get j hlt, h1, Nat.testBit_two_pow_sub_one] at h0
    simp [hlt] at h0
  | run l t ih =>
    intro m seen f listed fr h hd hb ho H _ _
    simp only [okT] at ho
    simp only [evT] at H
    refine okRun_ok ha (k := fun m f => okT P ops anc t m 0 f) ?_ l m f listed fr h hd hb ho H
    intro m f listed fr h hd hb ho H
    exact ih m 0 f listed fr h hd hb ho H (fun h => absurd rfl h) (fun _ _ _ _ h0 => by simp at h0)
  | alt i t rest iht ihr =>
    intro m seen f listed fr h hd hb ho H hne hs
    simp only [okT, Bool.and_eq_true] at ho
    obtain ⟨⟨h1, h2⟩, h3⟩ := ho
    simp only [evT] at H
    obtain ⟨H1, H2⟩ := H
    split at H1
    · exact H1.elim
    · rename_i oi hoi
      rw [hoi] at h1
      rw [nth_eq, Array.getElem?_toList] at hoi
      have hlt : i < ops.size := (Array.getElem?_eq_some_iff.1 hoi).1
      refine ihr m (seen ||| 2 ^ i) f listed fr h hd hb h3 H2 (fun _ hn => ?_) ?_
      · have := (hb.ready hoi).2 h1
        rw [hn] at this; cases this
      intro f' hf j hj hjs o hoj
      subst hf
      rw [Nat.testBit_or, Nat.testBit_two_pow] at hjs
      simp only [Bool.or_eq_true, decide_eq_true_eq] at hjs
      rcases hjs with hjs | rfl
      · exact hs f' rfl j hj hjs o hoj
      · rw [hoi] at hoj; cases hoj
        refine evOne_mono (fun fr h hh => ?_) H1
        exact iht _ 0 f' _ fr h (hd.set hj) (hb.set hlt) h2 hh (fun h => absurd rfl h) (fun _ _ _ _ h0 => by simp at h0)
  | nil =>
    intro m seen f listed fr h hd hb ho H hne hs
    simp only [okT, Bool.and_eq_true] at ho
    obtain ⟨⟨h1, h2⟩, h3⟩ := ho
    cases f with
    | zero => simp at h1
    | succ f =>
      refine ⟨fun hn => absurd hn (hne (by simpa using h3)), fun j hj o hoj => ?_⟩
      refine hs f rfl j hj ?_ o hoj
      have := seenAll_get ops.toList 0 h2 j o (by simpa using hoj)
      rw [Nat.zero_add, (hb.ready hoj).1 hj] at this
      simpa using this
/-- Does this tree serve all orders that may be drawn? -/
def okTree (P : Program) (ops : Array Oper) (t : Tr) : Bool :=
  P.follows .mixedOrders && okT P ops (ancGo ops.toList []) t 0 0 ops.size
theorem okTree_ok {P : Program} {ops : Array Oper} {t : Tr} (ho : okTree P ops t = true) {fr : Fr} {K : Fr → Heap → Prop} {h : Heap} (H : evT P ops.toList t fr K h) :
    P.follows .mixedOrders = true ∧ evAny P ops ops.size (Array.replicate ops.size false) fr K h := by
  simp only [okTree, Bool.and_eq_true] at ho
  refine ⟨ho.1, okT_ok (ancGo_ok ops.toList [] (fun k => by simp) (fun j m i hn => by simp [nth] at hn)) t 0 0 ops.size _ fr h ?_ ⟨by simp, fun k hk => by simp [hk], fun k hk => by simp at hk⟩ ho.2 H (fun h => absurd rfl h) (fun _ _ _ _ h0 => by simp at h0)⟩
  intro j o hj
  exfalso
  rcases Nat.lt_or_ge j ops.size with hlt | hge
  · simp [hlt] at hj
  · simp [Array.getElem?_eq_none, hge] at hj
#print axioms okOrd_ok
end Go.HW

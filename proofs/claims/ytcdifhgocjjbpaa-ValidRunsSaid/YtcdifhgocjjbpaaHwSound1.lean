/- The evaluator's operations are sound for the model's. -/
import Derived.Test.YtcdifhgocjjbpaaHwEval
import Derived.Laws.Strings
set_option linter.unusedVariables false
set_option linter.unusedSimpArgs false
namespace Go.HW
open Go

theorem hwp_value {P : Program} {s : Sem Value} {K : Value → Heap → Prop} {h : Heap} (H : hwp P s K h) : hwp P (do let v ← s; pure (Next.value v)) (nextK P K) h :=
  (hwp_bind' _ _ _ _).2 (hwp_mono s (fun _ _ k => k) H)
theorem hwp_unit {P : Program} {s : Sem Unit} {K : Value → Heap → Prop} {h : Heap} (H : hwp P s (fun _ h => K undef h) h) : hwp P (do s; pure Next.skip) (nextK P K) h :=
  (hwp_bind' _ _ _ _).2 (hwp_mono s (fun _ _ k => k) H)

theorem fastOf_val {x : Option Value} {v : Value} (h : fastOf x = .val v) : x = some v := by
  cases x <;> simp [fastOf] at h; rw [h]
theorem fastOf_chk {x : Option Value} {b : Bool} {v : Value} (h : fastOf x = .chk b v) : False := by
  cases x <;> simp [fastOf] at h

/-- What a fast result promises of a program of the model's. -/
def Fast.ok (P : Program) (s : Sem Value) : Fast → Prop
  | .val v => ∀ (K : Value → Heap → Prop) h, K v h → hwp P s K h
  | .chk b v => b = true → ∀ (K : Value → Heap → Prop) h, K v h → hwp P s K h
  | .no => True

theorem fastOf_ok {P : Program} {s : Sem Value} : (fastOf (runPure P s)).ok P s := by
  cases e : runPure P s with
  | none => trivial
  | some v => exact fun K h H => hwp_runPure e H

theorem must_ok {P : Program} {s : Sem Value} : (must (runPure P s)).ok P s := by
  cases e : runPure P s with
  | none => exact fun hb => absurd hb (by simp)
  | some v => exact fun K h H => hwp_runPure e H
theorem chk_false {P : Program} {s : Sem Value} : (Fast.chk false undef).ok P s := fun hb => absurd hb (by simp)

theorem hwp_underlying {P : Program} {t : TypeId} {d : TypeDesc} (e : P.underlying t = some d) {K : TypeDesc → Heap → Prop} {h : Heap} : hwp P (underlying t) K h ↔ K d h := by
  simp only [underlying, program, bind, hwp_bind, hwp, e]; rfl

def guardOf (op : BinOp) (t : TypeId) (x y : Operand) (a b : Value) : Sem Unit := eqGuard op t x y a b
theorem eqGuard_quiet {P : Program} {op : BinOp} {t : TypeId} {x y : Operand} {a b : Value} (ha : a ≠ .nilIface) (hb : ∀ c, a ≠ .agg c) {K : Unit → Heap → Prop} {h : Heap} (H : K () h) :
    hwp P (eqGuard op t x y a b) K h := by
  cases op <;> first
    | exact H
    | (cases a <;> first | exact H | exact absurd rfl ha | exact absurd rfl (hb _))

theorem binSem {P : Program} {op : BinOp} {t : TypeId} {x y : Operand} {a b : Value} (ha : a ≠ .nilIface) (hb : ∀ c, a ≠ .agg c) {K : Value → Heap → Prop} {h : Heap} (H : hwp P (Go.binOp op t a b) K h) :
    hwp P (do eqGuard op t x y a b; Go.binOp op t a b) K h :=
  (hwp_bind' _ _ _ _).2 (eqGuard_quiet ha hb H)

theorem string_eq_iff (a b : ByteArray) : (a.toList == b.toList) = decide (a = b) := by
  have key : a.toList = b.toList ↔ a = b := by
    rw [ByteArray.toList_eq, ByteArray.toList_eq]
    exact ⟨fun h => ByteArray.ext (Array.ext' h), fun h => by rw [h]⟩
  by_cases h : a = b <;> simp [h, key]

theorem Sem.bind_assoc' {α β γ : Type} (s : Sem α) (f : α → Sem β) (g : β → Sem γ) : (s.bind f).bind g = s.bind fun a => (f a).bind g := by
  have := bind_assoc (m := Sem) s f g
  exact this
theorem eqvF_ok {P : Program} {g : Field → Option Bool} {F : Field → Sem Bool} (hg : ∀ f b, g f = some b → ∀ (K : Bool → Heap → Prop) h, K b h → hwp P (F f) K h) : ∀ (l : List Field) (b : Bool), eqvF g l = some b → ∀ (K : Bool → Heap → Prop) (h : Heap), K b h →
    hwp P ((forIn l ((none, ()) : Option Bool × Unit) fun f __s => if f.name ≠ "_" then (F f).bind fun c => if (!c) = true then Sem.pure (ForInStep.done (some false, ())) else Sem.pure (ForInStep.yield (none, ())) else Sem.pure (ForInStep.yield (none, ()))).bind fun __s => match __s.fst with | some r => Sem.pure r | none => Sem.pure true) K h := by
  intro l
  induction l with
  | nil => intro b hb K h hk; cases hb; exact hk
  | cons f l ih =>
    intro b hb K h hk
    simp only [eqvF] at hb
    split at hb
    · cases hb
    · rename_i hn
      have hn := of_decide_eq_false hn
      split at hb
      · rename_i a c h1 h2
        cases hb
        rw [List.forIn_cons]
        refine (hwp_bind _ _ _ _).2 ((hwp_bind' _ _ _ _).2 ?_)
        rw [if_pos hn]
        refine (hwp_bind _ _ _ _).2 (hg f a h1 _ _ ?_)
        cases a with
        | false => exact hk
        | true =>
          have := (hwp_bind _ _ _ _).1 (ih c h2 K h (by simpa using hk))
          exact this
      · cases hb
theorem eqv_ok {P : Program} : ∀ (d : Nat) (t : TypeId) (x y : Value) (b : Bool), eqv P d t x y = some b → ∀ D, d ≤ D → ∀ (K : Bool → Heap → Prop) (h : Heap), K b h → hwp P (Op.equalIn D t x y) K h := by
  intro d
  induction d with
  | zero => intro t x y b hb; simp [eqv] at hb
  | succ d ih =>
    intro t x y b hb D hD K h hk
    obtain ⟨D, rfl⟩ : ∃ E, D = E + 1 := ⟨D - 1, by omega⟩
    unfold eqv at hb
    split at hb
    · rename_i hu
      split at hb
      · cases hb; unfold Op.equalIn; exact (hwp_bind' _ _ _ _).2 ((hwp_underlying hu).2 hk)
      · cases hb
    · rename_i k0 hu
      split at hb
      · split at hb
        · rename_i hk'
          cases hb; unfold Op.equalIn
          refine (hwp_bind' _ _ _ _).2 ((hwp_underlying hu).2 ?_)
          simp only [of_decide_eq_true hk', if_true]; exact hk
        · cases hb
      · cases hb
    · rename_i hu
      split at hb
      · rename_i s1 s2
        cases hb; unfold Op.equalIn
        refine (hwp_bind' _ _ _ _).2 ((hwp_underlying hu).2 ?_)
        have e : (s1 == s2) = decide (s1 = s2) := by
          cases s1 with | mk x => cases s2 with | mk y =>
            show (x == y) = _
            by_cases h : x = y
            · subst h; simp
            · simp [h]
        show K (s1 == s2) h
        rw [e]; exact hk
      · cases hb
    · rename_i fs hu
      split at hb
      · cases hb
      · rename_i hst
        split at hb
        · rename_i xs ys
          unfold Op.equalIn
          simp only [underlying, program, bind, hwp_bind, hwp, hu, pure, hst, if_false, Bool.false_eq_true]
          rw [← Array.forIn_toList]
          rw [← hwp_bind]
          refine Eq.mp ?_ (eqvF_ok (P := P) (F := fun f => (part f.type xs f.offset).bind fun u => (part f.type ys f.offset).bind fun v => Op.equalIn D f.type u v) ?_ _ _ hb K h hk)
          · congr 3
            · funext f s
              split
              · simp only [Sem.bind_assoc']
              · rfl
            · funext a
              split <;> simp_all
          · intro f b hb K h hk
            split at hb
            · rename_i u v h1 h2
              exact (hwp_bind _ _ _ _).2 (hwp_runPure h1 ((hwp_bind _ _ _ _).2 (hwp_runPure h2 (ih _ _ _ _ hb D (by omega) K h hk))))
            · cases hb
        · cases hb
    · cases hb
theorem fastBin_ok {P : Program} {op : BinOp} {t : TypeId} {x y : Operand} {a b : Value} : (fastBin P op t a b).ok P (do eqGuard op t x y a b; Go.binOp op t a b) := by
  have lift : ∀ {f : Fast}, a ≠ .nilIface → (∀ c, a ≠ .agg c) → f.ok P (Go.binOp op t a b) → f.ok P (do eqGuard op t x y a b; Go.binOp op t a b) := by
    intro f ha hb hf
    cases f with
    | val v => exact fun K h H => binSem ha hb (hf K h H)
    | chk c v => exact fun hc K h H => binSem ha hb (hf hc K h H)
    | no => trivial
  unfold fastBin
  split
  · -- int
    split
    · refine lift (by simp) (by simp) ?_
      intro hb K h H
      simp only [decide_eq_true_eq] at hb
      show hwp P (if _ < 0 then _ else _) K h
      rw [if_neg (by omega)]; exact H
    · refine lift (by simp) (by simp) ?_
      intro hb K h H
      simp only [decide_eq_true_eq] at hb
      show hwp P (if _ < 0 then _ else _) K h
      rw [if_neg (by omega)]; exact H
    · rename_i k a k' b
      split
      · rename_i hk
        refine lift (by simp) (by simp) ?_
        intro hb K h H
        have hk := of_decide_eq_true hk
        subst hk
        have hb : b ≠ 0 := by simpa using hb
        show hwp P (if k ≠ k then _ else Op.intDiv .quo k a b) K h
        rw [if_neg (by simp)]
        show hwp P (if b = 0 then _ else _) K h
        rw [if_neg hb]; exact H
      · exact chk_false
    · rename_i k a k' b
      split
      · rename_i hk
        refine lift (by simp) (by simp) ?_
        intro hb K h H
        have hk := of_decide_eq_true hk
        subst hk
        have hb : b ≠ 0 := by simpa using hb
        show hwp P (if k ≠ k then _ else Op.intDiv .rem k a b) K h
        rw [if_neg (by simp)]
        show hwp P (if b = 0 then _ else _) K h
        rw [if_neg hb]; exact H
      · exact chk_false
    · exact lift (by simp) (by simp) must_ok
    · exact chk_false
  · split
    · exact lift (by simp) (by simp) must_ok
    · exact chk_false
  · split
    · refine lift (by simp) (by simp) ?_
      intro hb K h H
      simp only [decide_eq_true_eq] at hb
      show hwp P (if _ > _ then _ else _) K h
      rw [if_neg (by simp only [IntKind.max, IntKind.signed, IntKind.bits]; omega)]; exact H
    · refine lift (by simp) (by simp) ?_
      intro K h H; rw [← string_eq_iff] at H; exact H
    · refine lift (by simp) (by simp) ?_
      intro K h H; rw [← string_eq_iff] at H; exact H
    · refine lift (by simp) (by simp) ?_
      intro K h H; exact H
    · refine lift (by simp) (by simp) ?_
      intro K h H; rw [← string_eq_iff] at H; exact H
    · refine lift (by simp) (by simp) ?_
      intro K h H; rw [← string_eq_iff] at H; exact H
    · refine lift (by simp) (by simp) ?_
      intro K h H; exact H
    · exact chk_false
  · rename_i e he
    split
    · rename_i p
      refine lift (by simp) (by simp) ?_
      intro K h H
      refine (hwp_bind' _ _ _ _).2 ((hwp_bind' _ _ _ _).2 ((hwp_underlying he).2 ?_))
      cases p <;> exact H
    · rename_i p
      refine lift (by simp) (by simp) ?_
      intro K h H
      refine (hwp_bind' _ _ _ _).2 ((hwp_bind' _ _ _ _).2 ((hwp_underlying he).2 ?_))
      cases p <;> exact H
    · trivial
  · rename_i e he
    split
    · rename_i p _ _ _ _
      refine lift (by simp) (by simp) ?_
      intro K h H
      refine (hwp_bind' _ _ _ _).2 ((hwp_bind' _ _ _ _).2 ((hwp_underlying he).2 ?_))
      cases p <;> exact H
    · rename_i p _ _ _ _
      refine lift (by simp) (by simp) ?_
      intro K h H
      refine (hwp_bind' _ _ _ _).2 ((hwp_bind' _ _ _ _).2 ((hwp_underlying he).2 ?_))
      cases p <;> exact H
    · trivial
  · rename_i e he
    split
    · rename_i p
      refine lift (by simp) (by simp) ?_
      intro K h H
      refine (hwp_bind' _ _ _ _).2 ((hwp_bind' _ _ _ _).2 ((hwp_underlying he).2 ?_))
      cases p <;> exact H
    · rename_i p
      refine lift (by simp) (by simp) ?_
      intro K h H
      refine (hwp_bind' _ _ _ _).2 ((hwp_bind' _ _ _ _).2 ((hwp_underlying he).2 ?_))
      cases p <;> exact H
    · trivial
  · rename_i fs hu
    split
    · rename_i hp
      have hg : P.eqGuardType P.depth t = false := by
        unfold plainS at hp
        split at hp
        · simp only [Bool.and_eq_true, Bool.not_eq_true'] at hp; exact hp.2
        · cases hp
      have go : ∀ (c : Bool → Bool), (∀ (K : Value → Heap → Prop) h, hwp P (Op.equal t a b) (fun r h => K (.bool (c r)) h) h → (∃ r, eqv P 6 t a b = some r) → hwp P (do eqGuard op t x y a b; Go.binOp op t a b) K h) → (eqB (eqv P 6 t a b) c).ok P (do eqGuard op t x y a b; Go.binOp op t a b) := by
        intro c hc
        cases he : eqv P 6 t a b with
        | none => exact chk_false
        | some r => exact fun K h H => hc K h (eqv_ok 6 t a b r he Op.maxDepth (by decide) _ _ H) ⟨r, he⟩
      have agg : (∃ r, eqv P 6 t a b = some r) → ∃ xs ys, a = .agg xs ∧ b = .agg ys := by
        rintro ⟨r, he⟩
        unfold eqv at he
        rw [hu] at he
        simp only at he
        split at he
        · cases he
        · split at he
          · exact ⟨_, _, rfl, rfl⟩
          · cases he
      split
      · refine go id fun K h H hr => ?_
        obtain ⟨xs, ys, rfl, rfl⟩ := agg hr
        refine (hwp_bind' _ _ _ _).2 ?_
        show hwp P (if (!P.eqGuardType P.depth t) = true then (Sem.pure () : Sem Unit) else _) _ h
        rw [hg]
        exact (hwp_bind _ _ _ _).2 H
      · refine go not fun K h H hr => ?_
        obtain ⟨xs, ys, rfl, rfl⟩ := agg hr
        refine (hwp_bind' _ _ _ _).2 ?_
        show hwp P (if (!P.eqGuardType P.depth t) = true then (Sem.pure () : Sem Unit) else _) _ h
        rw [hg]
        exact (hwp_bind _ _ _ _).2 H
      · trivial
    · trivial
  · trivial

theorem Fast.value {P : Program} {s : Sem Value} {f : Fast} (hf : f.ok P s) : f.ok P s := hf

/-- A fast result of an operation, carried to the model's step. -/
def Fast.done (P : Program) (f : Fast) (s : Sem Next) : Prop :=
  match f with
  | .val v => ∀ (K : Value → Heap → Prop) h, K v h → hwp P s (nextK P K) h
  | .chk b v => b = true → ∀ (K : Value → Heap → Prop) h, K v h → hwp P s (nextK P K) h
  | .no => True
theorem Fast.lift {P : Program} {s : Sem Value} {f : Fast} (hf : f.ok P s) : f.done P (do let v ← s; pure (Next.value v)) := by
  cases f with
  | val v => exact fun K h H => hwp_value (hf K h H)
  | chk b v => exact fun hb K h H => hwp_value (hf hb K h H)
  | no => trivial
theorem done_chk {P : Program} {s : Sem Next} : Fast.done P (.chk false undef) s := fun hb => absurd hb (by simp)
theorem done_no {P : Program} {s : Sem Next} : Fast.done P .no s := trivial

/-- Builtins: what a call of one comes to. -/
theorem execOp_builtin {P : Program} {ρ : Operand → Value} {dst : Option Tmp} {b : Builtin} {args : Array Operand} {at_ : Array TypeId} {ty : TypeId} {pos : String} {af : Array Edge} {g : Option (Nat × Bool)} {s : Sem Value}
    (hs : Go.builtin b at_ ty (args.map fun | .const _ => true | _ => false) (args.map ρ) = (do let v ← s; pure (Next.value v))) :
    execOp ρ ⟨dst, .call ⟨.builtin b, args, at_⟩, ty, pos, af, g⟩ = (do let v ← s; pure (Next.value v)) := by
  rw [← hs]; rfl

theorem fastOp_ok {P : Program} {ρ : Operand → Value} {o : Oper} : (fastOp P ρ o).done P (execOp ρ o) := by
  obtain ⟨dst, op, ty, pos, af, g⟩ := o
  cases op with
  | move x => exact fun K h H => H
  | assign x => exact fun K h H => H
  | pick c a b =>
    show Fast.done P (match ρ c with
    | .bool t => match ρ a, ρ b with
      | .bool p, .bool q => .val (.bool (match t with | true => p | false => q))
      | p, q => match t with | true => .val p | false => .val q
    | _ => .chk false undef) _
    split
    · rename_i t hc
      have key : ∀ v, (if t then ρ a else ρ b) = v → ∀ (K : Value → Heap → Prop) h, K v h → hwp P (execOp ρ ⟨dst, .pick c a b, ty, pos, af, g⟩) (nextK P K) h := by
        intro v hv K h H
        simp only [execOp, bind, pure, hc, asBool, Sem.bind, hwp, nextK]
        rw [hv]; exact H
      split
      · rename_i p q ha hb
        exact key _ (by rw [ha, hb]; cases t <;> rfl)
      · cases t <;> exact key _ rfl
    · exact done_chk
  | build t parts => exact Fast.lift must_ok
  | unOp op t x => exact Fast.lift must_ok
  | makeInterface t x => exact Fast.lift must_ok
  | makeFunc fn a b => exact fun K h H => H
  | extract x i => exact Fast.lift must_ok
  | field t x i =>
    show Fast.done P (match shape1 P t with
    | .agg _ => must (runPure P (Instr.field t (ρ x) i))
    | _ => .no) _
    split
    · exact Fast.lift must_ok
    · exact done_no
  | fieldAddr t x i =>
    show Fast.done P (match ρ x with
    | .pointer (some a) => must (runPure P (Instr.fieldAt t (.pointer (some a)) i))
    | _ => .chk false undef) _
    split
    · rename_i a ha
      have : execOp ρ ⟨dst, .fieldAddr t x i, ty, pos, af, g⟩ = (do let v ← Instr.fieldAt t (.pointer (some a)) i; pure (Next.value v)) := by
        rw [← ha]; rfl
      rw [this]; exact Fast.lift must_ok
    · exact done_chk
  | convert s d x =>
    show Fast.done P (match P.underlying s, P.underlying d with
    | some (.int _), some (.int _) => match ρ x with
      | .int _ n => must (runPure P (Go.convert s d (ρ x)))
      | _ => .chk false undef
    | some .string, some .string => match ρ x with
      | .string _ => .val (ρ x)
      | _ => .chk false undef
    | _, _ => .no) _
    split
    · split
      · exact Fast.lift must_ok
      · exact done_chk
    · rename_i h1 h2
      split
      · rename_i y hy
        intro K h H
        refine hwp_value ?_
        unfold Go.convert
        refine (hwp_bind' _ _ _ _).2 ((hwp_underlying h1).2 ((hwp_bind' _ _ _ _).2 ((hwp_underlying h2).2 ?_)))
        rw [hy]; rw [hy] at H; exact H
      · exact done_chk
    · exact done_no
  | binOp op t x y yt => exact Fast.lift fastBin_ok
  | call c =>
    obtain ⟨callee, args, at_⟩ := c
    cases callee with
    | value f => exact done_no
    | invoke r m => exact done_no
    | builtin b =>
      cases b with
      | len =>
        show Fast.done P (match (at_[0]?).bind (P.underlying ·) with
          | some (.slice _) | some .string | some (.array ..) => must (runPure P (Builtin.len_ at_ ty (args.map ρ)))
          | _ => .no) _
        split <;> first | exact (Fast.lift must_ok) | exact done_no
      | min =>
        show Fast.done P (match P.underlying ty with
          | some (.int _) => must (runPure P (Builtin.min_ at_ ty (args.map ρ)))
          | _ => .no) _
        split <;> first | exact (Fast.lift must_ok) | exact done_no
      | max =>
        show Fast.done P (match P.underlying ty with
          | some (.int _) => must (runPure P (Builtin.max_ at_ ty (args.map ρ)))
          | _ => .no) _
        split <;> first | exact (Fast.lift must_ok) | exact done_no
      | cap =>
        show Fast.done P (match (at_[0]?).bind (P.underlying ·) with
          | some (.slice _) => must (runPure P (Builtin.cap_ at_ ty (args.map ρ)))
          | _ => .no) _
        split <;> first | exact (Fast.lift must_ok) | exact done_no
      | _ => exact done_no
  | _ => exact done_no

/-! ### Reads and writes -/
theorem loadCellsFrom_ok {P : Program} {a : Addr} (l : List Value) : ∀ {i : Nat} {acc : Array Value} {K : Array Value → Heap → Prop} {h : Heap},
    rdCells h a i l → K (acc ++ l.toArray) h → hwp P (loadCellsFrom a i l.length acc) K h := by
  induction l with
  | nil => intro i acc K h _ H; simp at H; exact H
  | cons v l ih =>
    rintro i acc K h ⟨hv, hr⟩ H
    refine (hwp_bind' _ _ _ _).2 ⟨v, hv, ?_⟩
    refine ih hr ?_
    have : (acc.push v ++ l.toArray) = acc ++ (v :: l).toArray := by rw [← Array.toList_inj]; simp
    rw [this]; exact H
theorem loadCells_ok {P : Program} {a : Addr} {l : List Value} {n : Nat} (hn : l.length = n) {K : Array Value → Heap → Prop} {h : Heap} (hr : rdCells h a 0 l) (H : K l.toArray h) : hwp P (loadCells a n) K h := by
  subst hn; exact loadCellsFrom_ok l hr (by simpa using H)

theorem storeCells_ok {P : Program} {a : Addr} (l : List Value) : ∀ {i : Nat} {K : Unit → Heap → Prop} {h : Heap}, wrCells a i l (K ()) h → hwp P (storeCells a l i) K h := by
  induction l with
  | nil => exact fun H => H
  | cons v l ih =>
    rintro i K h ⟨e1, e2, e3, H⟩
    exact (hwp_bind' _ _ _ _).2 ⟨e1, e2, e3, ih H⟩

theorem cellsOf_of {P : Program} {t : TypeId} {d : TypeDesc} (e : P.underlying t = some d) : ∃ i, P.info? t = some i ∧ P.cellsOf t = i.size := by
  cases hi : P.info? t with
  | none => simp [Program.underlying, hi] at e
  | some i => exact ⟨i, rfl, by simp [Program.cellsOf, hi]⟩
theorem hwp_sizeOf {P : Program} {t : TypeId} {d : TypeDesc} (e : P.underlying t = some d) {K : Nat → Heap → Prop} {h : Heap} : hwp P (sizeOf t) K h ↔ K (P.cellsOf t) h := by
  obtain ⟨i, hi, hs⟩ := cellsOf_of e
  simp only [sizeOf, typeInfo, program, bind, hwp_bind, hwp, hi, pure, hs]
def isA (d : TypeDesc) : Bool := match d with | .struct _ | .array _ _ => true | _ => false
theorem hwp_isAgg {P : Program} {t : TypeId} {d : TypeDesc} (e : P.underlying t = some d) {K : Bool → Heap → Prop} {h : Heap} :
    hwp P (isAgg t) K h ↔ K (isA d) h := by
  unfold isAgg
  rw [hwp_bind', hwp_underlying e]
  cases d <;> rfl

/-- What a shape says of its type. -/
def Shape.fits (P : Program) (t : TypeId) : Shape → Prop
  | .leaf _ => ∃ d, P.underlying t = some d ∧ isA d = false
  | .agg ls => ∃ d, P.underlying t = some d ∧ isA d = true ∧ ls.length = P.cellsOf t
  | .big n => ∃ d, P.underlying t = some d ∧ isA d = true ∧ n = P.cellsOf t
  | _ => True
theorem aggShape_fits {P : Program} {t : TypeId} {d : TypeDesc} (hd : P.underlying t = some d) (hm : isA d = true) : (aggShape P t).fits P t := by
  unfold aggShape
  split
  · rename_i hq; exact ⟨d, hd, hm, (of_decide_eq_true hq).2⟩
  · exact ⟨d, hd, hm, rfl⟩
theorem shape1_fits (P : Program) (t : TypeId) : (shape1 P t).fits P t := by
  unfold shape1
  split
  · rename_i h; exact aggShape_fits h rfl
  · rename_i h
    split
    · exact aggShape_fits h rfl
    · exact ⟨_, h, rfl, rfl⟩
  · rename_i d h1 h2 h
    refine ⟨d, h, ?_⟩
    cases d <;> first | rfl | exact absurd rfl (h1 _) | exact absurd rfl (h2 _ _) | exact (h1 _ rfl).elim | exact (h2 _ _ rfl).elim
  · trivial

theorem ldAt_ok {P : Program} {t : TypeId} {a : Addr} {K : Value → Heap → Prop} {h : Heap} (H : ldAt (shape1 P t) a K h) : hwp P (loadVar t a) K h := by
  have hs := shape1_fits P t
  unfold loadVar
  generalize shape1 P t = s at *
  cases s with
  | leaf l =>
    obtain ⟨d, hd, hm⟩ := hs
    obtain ⟨v, hv, hK⟩ := exLeaf_elim H
    rw [hwp_bind', hwp_isAgg hd]
    rw [hm]; exact ⟨v, hv, hK⟩
  | agg ls =>
    obtain ⟨d, hd, hm, hl⟩ := hs
    obtain ⟨vs, hn, hr, hK⟩ := exLeaves_elim H
    rw [hwp_bind', hwp_isAgg hd]
    rw [hm]
    show hwp P (sizeOf t >>= _) K h
    rw [hwp_bind', hwp_sizeOf hd, hwp_bind']
    exact loadCells_ok (by simp at hn; omega) hr hK
  | big n =>
    obtain ⟨d, hd, hm, hl⟩ := hs
    obtain ⟨vs, hn, hr, hK⟩ := H
    rw [hwp_bind', hwp_isAgg hd]
    rw [hm]
    show hwp P (sizeOf t >>= _) K h
    rw [hwp_bind', hwp_sizeOf hd, hwp_bind']
    exact loadCells_ok (by omega) hr hK
  | tup ss => exact H.elim
  | next => exact H.elim
  | flag => exact H.elim
  | any => exact H.elim

theorem stAt_ok {P : Program} {t : TypeId} {i : TypeInfo} {a : Addr} {v : Value} (hi : P.info? t = some i) {K : Heap → Prop} {h : Heap} (H : stAt i.size a v K h) : hwp P (storeVar t a v) (fun _ => K) h := by
  unfold storeVar
  have hz : ∀ (K : Nat → Heap → Prop), hwp P (sizeOf t) K h ↔ K i.size h := by
    intro K; simp only [sizeOf, typeInfo, program, bind, hwp_bind, hwp, hi, pure]
  rw [hwp_bind', hz]
  unfold stAt at H
  split at H
  · rename_i cs
    split at H
    · rename_i hn
      show hwp P (if cs.size ≠ i.size then _ else storeCells a cs.toList) _ h
      rw [if_neg (by simpa using of_decide_eq_true hn)]
      exact storeCells_ok cs.toList (K := fun _ => K) H
    · exact H.elim
  · rename_i hna
    split at H
    · rename_i hn
      have hc : v.cells = #[v] := by cases v <;> first | rfl | exact absurd rfl (hna _)
      show hwp P (if v.cells.size ≠ i.size then _ else storeCells a v.cells.toList) _ h
      rw [hc, hn, if_neg (by simp)]
      exact storeCells_ok [v] (K := fun _ => K) H
    · exact H.elim
#print axioms fastOp_ok
#print axioms stAt_ok
end Go.HW

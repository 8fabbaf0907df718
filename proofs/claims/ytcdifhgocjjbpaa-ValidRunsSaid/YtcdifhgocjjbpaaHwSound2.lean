/- The evaluator's operations are sound for the model's (2); regions in the order of the text; code. -/
import Derived.Test.YtcdifhgocjjbpaaHwSound1
set_option linter.unusedVariables false
set_option linter.unusedSimpArgs false
namespace Go.HW
open Go

theorem callFunc_ok {P : Program} {f : FuncId} {args : Array Value} {K : Value → Heap → Prop} {h : Heap} (hc : callable P f = true) (H : SpecH P f args.toList h K) :
    hwp P (callFunc f args) (nextK P K) h := by
  unfold callFunc
  refine (hwp_bind' _ _ _ _).2 ?_
  show hwp P (match P.funcs[f]? with | none => _ | some fn => _) _ h
  unfold callable at hc
  split at hc
  · rename_i fn hfn
    rw [hfn]
    simp only [Bool.and_eq_true, Bool.not_eq_true'] at hc
    show hwp P (if (fn.name == "runtime.NumGoroutine") = true then _ else _) _ h
    rw [if_neg (by rw [hc.2]; simp)]
    rw [if_neg (by simp; intro hh; rw [hh] at hc; simp at hc)]
    exact H
  · simp at hc

theorem SpecH.typed {P : Program} {f : FuncId} {args : List Value} {h : Heap} {s : Shape} {K : Value → Heap → Prop} (H : SpecH P f args h fun v h => Go.HW.typed s (fun v => K v h) v) : SpecH P f args h K :=
  H.mono fun _ _ h => typed_elim h

theorem invoke_fn {P : Program} {f : FuncId} {cap args : Array Value} {K : Value → Heap → Prop} {h : Heap} (hc : callable P f = true) (H : SpecH P f (args.toList ++ cap.toList) h K) :
    hwp P (invoke (.fn (.func f) cap) args) (nextK P K) h := by
  show hwp P (callFunc f (args ++ cap)) (nextK P K) h
  exact callFunc_ok hc (by rw [Array.toList_append]; exact H)

theorem nextK_typed {P : Program} {s : Shape} {K : Value → Heap → Prop} {n : Next} {h : Heap} (H : nextK P (fun v h => typed s (fun v => K v h) v) n h) : nextK P K n h := by
  cases n <;> first | exact typed_elim (s := s) (K := fun v => K v h) H | exact H | exact SpecH.typed H | exact RSpec.mono (Q := fun v h => typed s (fun v => K v h) v) H (fun _ _ h => typed_elim h)

theorem semV_ok {P : Program} {ρ : Operand → Value} {o : Oper} {s : Sem Value} (hs : semV ρ o = some s) : execOp ρ o = (do let v ← s; pure (Next.value v)) := by
  obtain ⟨dst, op, ty, pos, af, g⟩ := o
  cases op with
  | call c =>
    obtain ⟨callee, args, at_⟩ := c
    cases callee with
    | value f => simp [semV] at hs
    | invoke r m => simp [semV] at hs
    | builtin b => cases b <;> first | (simp [semV] at hs; done) | (simp only [semV, Option.some.injEq] at hs; subst hs; rfl)
  | _ => first | (simp [semV] at hs; done) | (simp only [semV, Option.some.injEq] at hs; subst hs; rfl)
theorem semU_ok {P : Program} {ρ : Operand → Value} {o : Oper} {s : Sem Unit} (hs : semU ρ o = some s) : execOp ρ o = (do s; pure Next.skip) := by
  obtain ⟨dst, op, ty, pos, af, g⟩ := o
  cases op <;> first | (simp [semU] at hs; done) | (simp only [semU, Option.some.injEq] at hs; subst hs; rfl)

theorem generic_ok {P : Program} {ρ : Operand → Value} {o : Oper} {sh : Shape} {K : Value → Heap → Prop} {h : Heap}
    (H : match semV ρ o with
      | some s => hwp P s (fun v h => typed sh (fun v => K v h) v) h
      | none => match semU ρ o with
        | some s => hwp P s (fun _ h => K undef h) h
        | none => False) : hwp P (execOp ρ o) (nextK P K) h := by
  split at H
  · rename_i s hs
    rw [semV_ok (P := P) hs]
    exact hwp_value (hwp_mono s (fun _ _ k => typed_elim k) H)
  · split at H
    · rename_i s hs
      rw [semU_ok (P := P) hs]
      exact hwp_unit H
    · exact H.elim

theorem heavyOp_ok {P : Program} {ρ : Operand → Value} (hρ : ∀ f, ρ (.func f) = .func (.func f) #[] #[]) {o : Oper} {K : Value → Heap → Prop} {h : Heap} (H : heavyOp P ρ o K h) : hwp P (execOp ρ o) (nextK P K) h := by
  obtain ⟨dst, op, ty, pos, af, g⟩ := o
  unfold heavyOp at H
  split at H <;> rename_i hop <;> try (cases hop)
  · rename_i t x
    split at H
    · rename_i a ha
      refine hwp_value ?_
      show hwp P (do loadVar t (← Instr.sureAddr (ρ x))) K h
      rw [ha]; exact ldAt_ok H
    · exact H.elim
  · rename_i t x v
    split at H
    · rename_i a ha
      split at H
      · rename_i i hi
        refine hwp_unit ?_
        show hwp P (do storeVar t (← Instr.sureAddr (ρ x)) (ρ v)) _ h
        rw [ha]; exact stAt_ok hi H
      · exact H.elim
    · exact H.elim
  · rename_i x
    split at H
    · rename_i p hp
      cases p with
      | none => exact H.elim
      | some a => simp only [execOp, hp]; exact H
    · obtain ⟨f, a, b, hv, H⟩ := H
      simp only [execOp, hv] at H ⊢; exact H
  · rename_i f args at_
    split at H
    · rename_i hc
      have : execOp ρ ⟨dst, .call ⟨.value (.func f), args, at_⟩, ty, pos, af, g⟩ = (do let d ← Deferred.ofValue (ρ (.func f)) (args.map ρ); invoke d.target d.args) := rfl
      rw [this, hρ]
      show hwp P (invoke (.fn (.func f) #[]) (#[] ++ args.map ρ)) (nextK P K) h
      split at H
      · obtain ⟨v, hp, ht⟩ := H
        exact invoke_fn hc (by simpa using (hp h).mono fun r h' ⟨e1, e2⟩ => by rw [e1, e2]; exact typed_elim ht)
      · exact invoke_fn hc (by simpa using SpecH.typed H)
    · exact hwp_mono _ (fun _ _ k => nextK_typed k) H
  · rename_i x args at_ hx
    have : execOp ρ ⟨dst, .call ⟨.value x, args, at_⟩, ty, pos, af, g⟩ = (do let d ← Deferred.ofValue (ρ x) (args.map ρ); invoke d.target d.args) := rfl
    rw [this]
    have e : (args.toList.map ρ).toArray = args.map ρ := by rw [← Array.toList_inj]; simp
    unfold callV at H
    rw [e] at H
    exact hwp_mono _ (fun _ _ k => nextK_typed k) H
  · exact hwp_mono _ (fun _ _ k => nextK_typed k) H
  · exact generic_ok H

theorem opK_ok {P : Program} {ρ : Operand → Value} (hρ : ∀ f, ρ (.func f) = .func (.func f) #[] #[]) {o : Oper} {K : Value → Heap → Prop} {h : Heap} (H : opK P ρ o K h) : hwp P (execOp ρ o) (nextK P K) h := by
  have hf := fastOp_ok (P := P) (ρ := ρ) (o := o)
  unfold opK at H
  cases hv : fastOp P ρ o with
  | val v => rw [hv] at H hf; exact hf K h H
  | chk b v =>
    rw [hv] at H hf
    cases b with
    | true => exact hf rfl K h H
    | false => exact H.elim
  | no => rw [hv] at H; exact heavyOp_ok hρ H

/-- A closure is called. -/
theorem callV_fn {P : Program} {f : FuncId} {a b : Array Value} {args : List Value} {K : Value → Heap → Prop} {h : Heap} (hc : callable P f = true) (H : SpecH P f (a.toList ++ args ++ b.toList) h K) :
    callV P (.func (.func f) a b) args K h := by
  show hwp P (invoke (.fn (.func f) b) (a ++ args.toArray)) (nextK P K) h
  exact invoke_fn hc (by simpa using H)

/-! ### A known operation reads only what is known -/
def known (fr : Fr) (x : Operand) : Bool := match fr.ev x with | some _ => true | none => false
def allKnown (fr : Fr) : List Operand → Bool
  | [] => true
  | x :: l => match known fr x with | true => allKnown fr l | false => false
theorem allKnown_mem {fr : Fr} {l : List Operand} (h : allKnown fr l = true) : ∀ x ∈ l, known fr x = true := by
  induction l with
  | nil => simp
  | cons y l ih =>
    simp only [allKnown] at h
    split at h
    · rename_i hy
      intro x hx
      rcases List.mem_cons.1 hx with rfl | hx
      · exact hy
      · exact ih h x hx
    · simp at h
theorem rho_eval {fr : Fr} {a : Act} (hr : FrRel fr a.tmps) {x : Operand} (h : known fr x = true) : fr.rho x = a.eval x := by
  unfold known at h
  unfold Fr.rho
  split at h
  · rename_i v hv; rw [hv]; exact (hr.ev hv).symm
  · simp at h
theorem rho_func (fr : Fr) (f : FuncId) : fr.rho (.func f) = .func (.func f) #[] #[] := rfl

/-- The operands that the evaluator's operations read. -/
def opsOf (o : Oper) : Option (List Operand) :=
  match o.op with
  | .go _ | .defer _ | .select .. | .send .. | .recv .. | .makeChan .. | .panic _ | .waits _ => none
  | op => some op.operands.toList

theorem map_congr {α : Type} {f g : α → Value} {l : Array α} (h : ∀ x ∈ l, f x = g x) : l.map f = l.map g := Array.map_congr_left h

theorem execOp_congr {ρ ρ' : Operand → Value} {o : Oper} {l : List Operand} (hl : opsOf o = some l) (h : ∀ x ∈ l, ρ x = ρ' x) : execOp ρ o = execOp ρ' o := by
  obtain ⟨dst, op, ty, pos, af, g⟩ := o
  cases op <;> first | (simp [opsOf] at hl; done) | (simp only [opsOf, Option.some.injEq] at hl; subst hl; simp only [Op.operands] at h)
  case call c =>
    obtain ⟨callee, args, at_⟩ := c
    have ha : args.map ρ = args.map ρ' := map_congr fun x hx => h x (by simp [Call.operands, hx])
    cases callee with
    | builtin b => simp only [execOp, resolve, ha]
    | value f => have := h f (by simp [Call.operands]); simp only [execOp, resolve, ha, this]
    | invoke r m => have := h r (by simp [Call.operands]); simp only [execOp, resolve, ha, this]
  case build t parts =>
    have : (parts.map fun x => (x.1, ρ x.2)) = parts.map fun x => (x.1, ρ' x.2) :=
      Array.map_congr_left fun x hx => by rw [h x.2 (by simp; exact ⟨x.1, hx⟩)]
    simp only [execOp, this]
  case buildSlice t n parts =>
    have : (parts.map fun x => (x.1, ρ x.2)) = parts.map fun x => (x.1, ρ' x.2) :=
      Array.map_congr_left fun x hx => by rw [h x.2 (by simp; exact ⟨x.1, hx⟩)]
    simp only [execOp, this]
  case makeFunc fn a b =>
    have ha : a.map ρ = a.map ρ' := map_congr fun x hx => h x (by simp [hx])
    have hb : b.map ρ = b.map ρ' := map_congr fun x hx => h x (by simp [hx])
    simp only [execOp, ha, hb]
  case slice t x lo hi mx =>
    have h1 := h x (by simp)
    have h2 : lo.map ρ = lo.map ρ' := by cases lo with | none => rfl | some y => rw [Option.map_some, Option.map_some, h y (by simp)]
    have h3 : hi.map ρ = hi.map ρ' := by cases hi with | none => rfl | some y => rw [Option.map_some, Option.map_some, h y (by simp)]
    have h4 : mx.map ρ = mx.map ρ' := by cases mx with | none => rfl | some y => rw [Option.map_some, Option.map_some, h y (by simp)]
    simp only [execOp, h1, h2, h3, h4]
  case makeMap t r =>
    have h2 : r.map ρ = r.map ρ' := by cases r with | none => rfl | some y => rw [Option.map_some, Option.map_some, h y (by simp)]
    simp only [execOp, h2]
  case pick c a b => simp only [execOp, h c (by simp), h a (by simp), h b (by simp)]
  case mapUpdate t m k v => simp only [execOp, h m (by simp), h k (by simp), h v (by simp)]
  case entryStore t m k v => simp only [execOp, h m (by simp), h k (by simp), h v (by simp)]
  case insert t m k v => simp only [execOp, h m (by simp), h k (by simp), h v (by simp)]
  case store t a v => simp only [execOp, h a (by simp), h v (by simp)]
  case binOp op t a v yt => simp only [execOp, h a (by simp), h v (by simp)]
  case makeSlice t a v => simp only [execOp, h a (by simp), h v (by simp)]
  case indexAddr t a v => simp only [execOp, h a (by simp), h v (by simp)]
  case index t a v => simp only [execOp, h a (by simp), h v (by simp)]
  case lookup t a v ok => simp only [execOp, h a (by simp), h v (by simp)]
  case mapEntry t a v => simp only [execOp, h a (by simp), h v (by simp)]
  case alloc e => rfl
  case ready g => rfl
  all_goals
    rename_i x
    first | simp only [execOp, h x (by simp)] | (rename_i y; simp only [execOp, h y (by simp)]) | (rename_i y _; simp only [execOp, h y (by simp)]) | (rename_i y _ _; simp only [execOp, h y (by simp)]) | (rename_i y _ _ _; simp only [execOp, h y (by simp)])
#print axioms opK_ok
#print axioms execOp_congr
end Go.HW
